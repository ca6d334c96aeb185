/- law25.strategy: some strategy. Printed by gen_str.py. -/
import Derived.Test.YtncimnfhfomddaaDoorNg
import Derived.Test.YtncimnfhfomddaaDoorBxG
import Derived.Deep.CutBlock
import Derived.Deep.DeepCutAuto
namespace Go.Proofs.YtncimnfhfomddaaDoor
open Go.ChangeShapes Go.WideShapes Go.ChangeAt Go.RowKit

/-- the strategy that is being made -/
structure StJ (n k root b p q m : Nat) (OO : List (Nat × Nat)) (A : Option Addr) (c : Nat) (w wr : World) : Prop where
  src : SrcOk wr p
  gr : w.grownBy wr (some p)
  hd : Blk wr q 64 #[.int .i64 (k : Int), .int .i64 (root : Int), .int .i64 (b : Int), .slice A OO.length c]
  own : OwnR wr m (.slice A OO.length c) (OO.map toI)
  rng : ∀ x ∈ OO, x.1 < n ∧ x.2 < n
  asc : AscR OO
def RetSty (n p : Nat) (w : World) : Ending → World → Prop := fun e w' => ∃ (k root b : Nat) (OO : List (Nat × Nat)) (A : Option Addr) (c : Nat), e = .returned (.agg #[.int .i64 (k : Int), .int .i64 (root : Int), .int .i64 (b : Int), .slice A OO.length c]) ∧
  (k = 1 ∨ k = 2) ∧ root < n ∧ (b = 1 ∨ b = 2) ∧ (∀ x ∈ OO, x.1 < n ∧ x.2 < n) ∧ AscR OO ∧ OO.length ≤ n ∧ RP w' A (OO.map toI) ∧ SrcOk w' p ∧ w.grownBy w' (some p)
theorem cell2 {w w' : World} (hb : Below w.heap.size w w') {a : Addr} {v : Value} (h : w.cell? a = some v) : w'.cell? a = some v := (hb.cell (lt_of_cell h)).trans h
theorem asc_le : ∀ {n : Nat} (OO : List (Nat × Nat)) (m : Nat), AscR OO → (∀ x ∈ OO, x.1 < n) → (∀ x ∈ OO, m ≤ x.1) → OO.length + m ≤ n ∨ OO = []
  | n, [], m, _, _, _ => .inr rfl
  | n, x :: OO, m, h, h1, h2 => by
    left
    obtain ⟨h3, h4⟩ := List.pairwise_cons.1 h
    have hx := h1 x (List.mem_cons_self ..)
    have hm := h2 x (List.mem_cons_self ..)
    rcases asc_le OO (x.1 + 1) h4 (fun y hy => h1 y (List.mem_cons_of_mem _ hy)) (fun y hy => h3 y hy) with e | e
    · rw [List.length_cons]; omega
    · rw [e, List.length_singleton]; omega
theorem asc_len {n : Nat} {OO : List (Nat × Nat)} (h : AscR OO) (h1 : ∀ x ∈ OO, x.1 < n) : OO.length ≤ n := by
  rcases asc_le OO 0 h h1 (fun _ _ => Nat.zero_le _) with e | e
  · omega
  · rw [e]; exact Nat.zero_le _

/-- all that the loops keep -/
structure StK (n : Nat) (l : List (Int × Int)) (Ag : Option Addr) (cg k root b p q M : Nat) (OO : List (Nat × Nat)) (A : Option Addr) (c : Nat) (w wx : World) : Prop where
  st : StJ n k root b p q M OO A c w wx
  d0 : wx.cell? ⟨w.heap.size, 0, none⟩ = some (.int .i64 (n : Int))
  d1 : wx.cell? ⟨w.heap.size, 1, none⟩ = some (.slice Ag l.length cg)
  rp : RP wx Ag l
  bx : Blk wx (w.heap.size + 1) 64 #[.int .i64 0, .int .i64 0, .int .i64 0, .slice none 0 0]
  sz : M ≤ wx.heap.size
section
variable {n : Nat} {l : List (Int × Int)} {Ag : Option Addr} {cg k root b p q M : Nat} {OO : List (Nat × Nat)} {A : Option Addr} {c : Nat} {w wx wy : World}
theorem StK.grown (h : StK n l Ag cg k root b p q M OO A c w wx) (hp : p < w.heap.size) (hq : w.heap.size < q) (hM : q < M) (hAp : l ≠ [] → ∀ b o, Ag = some ⟨b, o, none⟩ → b ≠ p) (hs : SrcOk wy p) (hg : wx.grownBy wy (some p)) : StK n l Ag cg k root b p q M OO A c w wy where
  st := ⟨hs, grownBy_trans h.st.gr hg, h.st.hd.grown hg (fun e => by injection e with e; omega), h.st.own.grown hg (by omega), h.st.rng, h.st.asc⟩
  d0 := hg.cell h.d0 (by simp; omega)
  d1 := hg.cell h.d1 (by simp; omega)
  rp := fun j hj => by
    obtain ⟨bb, o, e, h1, h2⟩ := h.rp j hj
    have hne := hAp (fun e => by rw [e] at hj; cases hj) bb o e
    exact ⟨bb, o, e, hg.cell h1 (by simp; exact hne), hg.cell h2 (by simp; exact hne)⟩
  bx := h.bx.grown hg (fun e => by injection e with e; omega)
  sz := Nat.le_trans h.sz hg.size
theorem StK.below (h : StK n l Ag cg k root b p q M OO A c w wx) (hb : Below wx.heap.size wx wy) : StK n l Ag cg k root b p q M OO A c w wy where
  st := ⟨h.st.src.kept hb, grownBy_trans h.st.gr (grownBy_of_below hb _), h.st.hd.below hb h.st.hd.lt, OwnR.below h.st.own hb, h.st.rng, h.st.asc⟩
  d0 := cell2 hb h.d0
  d1 := cell2 hb h.d1
  rp := h.rp.below hb
  bx := h.bx.below hb h.bx.lt
  sz := Nat.le_trans h.sz hb.size
/-- a reply is appended: own rows lie behind M -/
theorem StK.more (h : StK n l Ag cg k root b p q M OO A c w wx) (hp : p < w.heap.size) (hq : w.heap.size + 1 < q) (hM : q < M) (hal : l ≠ [] → ∀ b o, Ag = some ⟨b, o, none⟩ → b < M) (ha : ∀ b o, Ag = some ⟨b, o, none⟩ → l ≠ [] → b ≠ q) {x : Nat × Nat} (hx : x.1 < n ∧ x.2 < n) (hlt : ∀ y ∈ OO, y.1 < x.1) {A' : Option Addr} {c' N : Nat} (hN : N = (OO ++ [x]).length) (ho : OwnR wy M (.slice A' (OO ++ [x]).length c') ((OO ++ [x]).map toI)) (hb : Below M wx wy) (hg : wx.grownBy wy (Value.slice A OO.length c).ownBlock) :
    StK n l Ag cg k root b p q M (OO ++ [x]) A' c' w (wy.setCell ⟨q, 3, none⟩ (.slice A' N c')) := by
  subst hN
  have hrow : ∀ k, (Value.slice A OO.length c).ownBlock = some k → M ≤ k := fun k e => (World.ownsRow.lt h.st.own k e).1
  have hsz := h.sz
  have hcell : ∀ (g i : Nat) (v : Value), g < M → g ≠ q → wx.cell? ⟨g, i, none⟩ = some v → (wy.setCell ⟨q, 3, none⟩ (.slice A' (OO ++ [x]).length c')).cell? ⟨g, i, none⟩ = some v := fun g i v h1 h2 h3 =>
    (World.cell?_setCell_far _ _ _ _ (Ne.symm h2)).trans (hg.cell h3 (fun e => by have := hrow g e.symm; omega))
  have hsrc : SrcOk wy p := h.st.src.other hg (fun k e => by have := hrow k e; omega)
  refine ⟨⟨src_set2 hsrc (by omega) _ _, grown_set2 (grown_below h.st.gr (hb.mono (by omega))) (by omega) _ _, ?_, ho.farB (a := ⟨q, 3, none⟩) hM _, fun y hy => ?_, ?_⟩, hcell _ _ _ (by omega) (by omega) h.d0, hcell _ _ _ (by omega) (by omega) h.d1, fun j hj => ?_, ?_, ?_⟩
  · exact (h.st.hd.grown hg (fun e => by have := hrow q e.symm; omega)).set_ 3 _
  · rw [List.mem_append, List.mem_singleton] at hy
    rcases hy with hy | rfl
    · exact h.st.rng y hy
    · exact hx
  · show List.Pairwise _ (OO ++ [x])
    rw [List.pairwise_append]
    exact ⟨h.st.asc, List.pairwise_singleton _ _, fun y hy z hz => by rw [List.mem_singleton] at hz; rw [hz]; exact hlt y hy⟩
  · obtain ⟨bb, o, e, h1, h2⟩ := h.rp j hj
    have hne : l ≠ [] := fun e => by rw [e] at hj; cases hj
    exact ⟨bb, o, e, hcell _ _ _ (hal hne bb o e) (ha bb o e hne) h1, hcell _ _ _ (hal hne bb o e) (ha bb o e hne) h2⟩
  · exact (h.bx.grown hg (fun e => by have := hrow _ e.symm; omega)).far (p := ⟨q, 3, none⟩) (by show w.heap.size + 1 ≠ q; omega) _
  · have := hg.size; simp [World.setCell]; omega
end

set_option maxRecDepth 100000 in
set_option maxHeartbeats 16000000 in
theorem strategy_any (A : Option Addr) {n : Nat} {l : List (Int × Int)} (c p : Nat) (hv : Vld n l) (hn0 : 0 < n) (hn10 : n ≤ 10) (w : World) (hs : SrcOk w p) (hr : RP w A l) (hAp : l ≠ [] → ∀ b o, A = some ⟨b, o, none⟩ → b ≠ p) :
    Calls Tryd.prog 42 #[.pointer (some ⟨p, 0, none⟩), .agg #[.int .i64 (n : Int), .slice A l.length c]] w (RetSty n p w) := by
  have hpl := hs.lt
  have HV := Lib.hid hv; have HAp := Lib.hid hAp
  clear hv hAp
  go_enter Tryd.func42, Tryd.ntmps42
  go_upto_region 1 with fail
  obtain ⟨wr, hW, k3, k4, hb0, hs0⟩ : ∃ W0, (w.alloc (.cells #[.int .i64 (n : Int), .slice A l.length c] 24)).alloc (.cells #[.int .i64 0, .int .i64 0, .int .i64 0, .slice none 0 0] 64) = W0 ∧ Blk W0 w.heap.size 24 #[.int .i64 (n : Int), .slice A l.length c] ∧ Blk W0 (w.heap.size + 1) 64 #[.int .i64 0, .int .i64 0, .int .i64 0, .slice none 0 0] ∧ Below w.heap.size w W0 ∧ W0.heap.size = w.heap.size + 2 := boxg24 w _ _ _ _ _ _ _ _
  rw [hW]
  have hs1 := hs.kept hb0
  have hr1 := hr.below hb0
  have hg1 : w.grownBy wr (some p) := grownBy_of_below hb0 _
  obtain ⟨c0, c1, -, -⟩ := k3.two
  have hpr : p < wr.heap.size := by omega
  have hpw : p ≠ w.heap.size := by omega
  have hpw1 : p ≠ w.heap.size + 1 := by omega
  clear hW hs hb0
  go_cut [5] (fun t5 wx => ∃ q k root b : Nat, t5 = .pointer (some ⟨q, 0, none⟩) ∧ (k = 1 ∨ k = 2) ∧ root < n ∧ (b = 1 ∨ b = 2) ∧ wr.heap.size ≤ q ∧ StJ n k root b p q wx.heap.size [] none 0 w wx ∧ wr.grownBy wx (some p))
  case first =>
    refine wp_region_tree [1, 5, 7, 9, 10] (fun w' => SrcOk w' p ∧ wr.grownBy w' (some p)) (fun w' => BxC 64 #[.int .i64 0, .int .i64 0, .int .i64 0, .slice none 0 0] none wr.heap.size w') 11 [0, 1, 2, 3, 4, 5, 6, 7, 8, 9, 10] (by rfl) (by decide) (by kernel_rfl) (by kernel_rfl) ⟨hs1.kept (Below.refl _ _).drew, grownBy_of_below (Below.refl _ _).drew _⟩ BxC.no ?_
    refine TxtT.pure 0 (by rfl) (by rw [List.getElem?_toArray]; rfl) (by rfl) (by as_aux_lemma => kernel_rfl) (by rfl) ?_; apply Exists.intro; refine ⟨fun w1 hS1 => ?_, ?_⟩; (focus (skip; go_simp; with_reducible rfl))
    rw [show List.erase [0, 1, 2, 3, 4, 5, 6, 7, 8, 9, 10] 0 = [1, 2, 3, 4, 5, 6, 7, 8, 9, 10] from rfl]; simp only [Act.put, List.setIfInBounds_toArray, List.set_cons_zero, List.set_cons_succ]
    refine TxtT.pure 2 (by rfl) (by rw [List.getElem?_toArray]; rfl) (by rfl) (by as_aux_lemma => kernel_rfl) (by rfl) ?_; apply Exists.intro; refine ⟨fun w1 hS1 => ?_, ?_⟩; (focus (skip; go_simp; with_reducible rfl))
    rw [show List.erase [1, 2, 3, 4, 5, 6, 7, 8, 9, 10] 2 = [1, 3, 4, 5, 6, 7, 8, 9, 10] from rfl]; simp only [Act.put, List.setIfInBounds_toArray, List.set_cons_zero, List.set_cons_succ]
    refine TxtT.pure 3 (by rfl) (by rw [List.getElem?_toArray]; rfl) (by rfl) (by as_aux_lemma => kernel_rfl) (by rfl) ?_; apply Exists.intro; refine ⟨fun w1 hS1 => ?_, ?_⟩; (focus (skip; go_simp; with_reducible rfl))
    rw [show List.erase [1, 3, 4, 5, 6, 7, 8, 9, 10] 3 = [1, 4, 5, 6, 7, 8, 9, 10] from rfl]; simp only [Act.put, List.setIfInBounds_toArray, List.set_cons_zero, List.set_cons_succ]
    refine TxtT.pure 4 (by rfl) (by rw [List.getElem?_toArray]; rfl) (by rfl) (by as_aux_lemma => kernel_rfl) (by rfl) ?_; apply Exists.intro; refine ⟨fun w1 hS1 => ?_, ?_⟩; (focus ((have g0 := hS1.2.cell c0 (by simp; omega)); go_simp; with_reducible rfl))
    rw [show List.erase [1, 4, 5, 6, 7, 8, 9, 10] 4 = [1, 5, 6, 7, 8, 9, 10] from rfl]; simp only [Act.put, List.setIfInBounds_toArray, List.set_cons_zero, List.set_cons_succ]
    refine TxtT.pure 6 (by rfl) (by rw [List.getElem?_toArray]; rfl) (by rfl) (by as_aux_lemma => kernel_rfl) (by rfl) ?_; apply Exists.intro; refine ⟨fun w1 hS1 => ?_, ?_⟩; (focus (skip; go_simp; with_reducible rfl))
    rw [show List.erase [1, 5, 6, 7, 8, 9, 10] 6 = [1, 5, 7, 8, 9, 10] from rfl]; simp only [Act.put, List.setIfInBounds_toArray, List.set_cons_zero, List.set_cons_succ]
    refine TxtT.two 1 9 (by as_aux_lemma => kernel_rfl) (by rw [List.getElem?_toArray]; rfl) (by rw [List.getElem?_toArray]; rfl) (by rfl) (by rfl) (by rfl) (by rfl) (fun v => ∃ x : Nat, v = Value.int .i64 (x : Int) ∧ (x = 1 ∨ x = 2)) (fun _ w' => BxC 64 #[.int .i64 0, .int .i64 0, .int .i64 0, .slice none 0 0] none wr.heap.size w') (fun v => ∃ q, v = Value.pointer (some ⟨q, 0, none⟩)) (fun v w' => ∃ q, v = Value.pointer (some ⟨q, 0, none⟩) ∧ BxC 64 #[.int .i64 0, .int .i64 0, .int .i64 0, .slice none 0 0] (some q) wr.heap.size w') (fun w1 hS1 hJ1 => ?_) (fun w1 hS1 hJ1 => ?_) ?_ ?_
    · refine Eff.call (f := 16) (args := #[.pointer (some ⟨p, 0, none⟩), .int .i64 1, .int .i64 2]) (by go_simp) ((krange_any p 1 2 w1 hS1.1 (by decide) (by decide) (by decide)).mono ?_)
      rintro e w' ⟨v, rfl, hv1, hv2, hs, hg⟩
      obtain ⟨v, rfl⟩ := Int.eq_ofNat_of_zero_le (by omega : (0 : Int) ≤ v)
      exact ⟨_, rfl, ⟨hs, grownBy_trans hS1.2 hg⟩, ⟨v, rfl, by omega⟩, BxC.grown hJ1 hg hpr⟩
    · exact Eff.value (w' := w1.alloc (.cells #[.int .i64 0, .int .i64 0, .int .i64 0, .slice none 0 0] 64)) (v := .pointer (some ⟨w1.heap.size, 0, none⟩)) (by go_simp) ⟨⟨hS1.1.kept (newB _ _), grownBy_trans hS1.2 (grownBy_of_below (newB _ _) _)⟩, ⟨_, rfl⟩, _, rfl, BxC.new hS1.2.size⟩
    ·
      rintro _ ⟨k, rfl, hk⟩
      rw [show List.erase [1, 5, 7, 8, 9, 10] 1 = [5, 7, 8, 9, 10] from rfl]; simp only [Act.put, List.setIfInBounds_toArray, List.set_cons_zero, List.set_cons_succ]
      refine TxtT.two 5 9 (by as_aux_lemma => kernel_rfl) (by rw [List.getElem?_toArray]; rfl) (by rw [List.getElem?_toArray]; rfl) (by rfl) (by rfl) (by rfl) (by rfl) (fun v => ∃ x : Nat, v = Value.int .i64 (x : Int) ∧ x < n) (fun _ w' => BxC 64 #[.int .i64 0, .int .i64 0, .int .i64 0, .slice none 0 0] none wr.heap.size w') (fun v => ∃ q, v = Value.pointer (some ⟨q, 0, none⟩)) (fun v w' => ∃ q, v = Value.pointer (some ⟨q, 0, none⟩) ∧ BxC 64 #[.int .i64 0, .int .i64 0, .int .i64 0, .slice none 0 0] (some q) wr.heap.size w') (fun w1 hS1 hJ1 => ?_) (fun w1 hS1 hJ1 => ?_) ?_ ?_
      · refine Eff.call (f := 19) (args := #[.pointer (some ⟨p, 0, none⟩), .int .i64 (n : Int)]) (by go_simp) ((n_any p (n : Int) w1 hS1.1 (by omega) (by omega)).mono ?_)
        rintro e w' ⟨v, rfl, hv1, hv2, hs, hg⟩
        obtain ⟨v, rfl⟩ := Int.eq_ofNat_of_zero_le (by omega : (0 : Int) ≤ v)
        exact ⟨_, rfl, ⟨hs, grownBy_trans hS1.2 hg⟩, ⟨v, rfl, by omega⟩, BxC.grown hJ1 hg hpr⟩
      · exact Eff.value (w' := w1.alloc (.cells #[.int .i64 0, .int .i64 0, .int .i64 0, .slice none 0 0] 64)) (v := .pointer (some ⟨w1.heap.size, 0, none⟩)) (by go_simp) ⟨⟨hS1.1.kept (newB _ _), grownBy_trans hS1.2 (grownBy_of_below (newB _ _) _)⟩, ⟨_, rfl⟩, _, rfl, BxC.new hS1.2.size⟩
      ·
        rintro _ ⟨root, rfl, hroot⟩
        rw [show List.erase [5, 7, 8, 9, 10] 5 = [7, 8, 9, 10] from rfl]; simp only [Act.put, List.setIfInBounds_toArray, List.set_cons_zero, List.set_cons_succ]
        refine TxtT.two 7 9 (by as_aux_lemma => kernel_rfl) (by rw [List.getElem?_toArray]; rfl) (by rw [List.getElem?_toArray]; rfl) (by rfl) (by rfl) (by rfl) (by rfl) (fun v => ∃ x : Nat, v = Value.int .i64 (x : Int) ∧ (x = 1 ∨ x = 2)) (fun _ w' => BxC 64 #[.int .i64 0, .int .i64 0, .int .i64 0, .slice none 0 0] none wr.heap.size w') (fun v => ∃ q, v = Value.pointer (some ⟨q, 0, none⟩)) (fun v w' => ∃ q, v = Value.pointer (some ⟨q, 0, none⟩) ∧ BxC 64 #[.int .i64 0, .int .i64 0, .int .i64 0, .slice none 0 0] (some q) wr.heap.size w') (fun w1 hS1 hJ1 => ?_) (fun w1 hS1 hJ1 => ?_) ?_ ?_
        · refine Eff.call (f := 16) (args := #[.pointer (some ⟨p, 0, none⟩), .int .i64 1, .int .i64 2]) (by go_simp) ((krange_any p 1 2 w1 hS1.1 (by decide) (by decide) (by decide)).mono ?_)
          rintro e w' ⟨v, rfl, hv1, hv2, hs, hg⟩
          obtain ⟨v, rfl⟩ := Int.eq_ofNat_of_zero_le (by omega : (0 : Int) ≤ v)
          exact ⟨_, rfl, ⟨hs, grownBy_trans hS1.2 hg⟩, ⟨v, rfl, by omega⟩, BxC.grown hJ1 hg hpr⟩
        · exact Eff.value (w' := w1.alloc (.cells #[.int .i64 0, .int .i64 0, .int .i64 0, .slice none 0 0] 64)) (v := .pointer (some ⟨w1.heap.size, 0, none⟩)) (by go_simp) ⟨⟨hS1.1.kept (newB _ _), grownBy_trans hS1.2 (grownBy_of_below (newB _ _) _)⟩, ⟨_, rfl⟩, _, rfl, BxC.new hS1.2.size⟩
        ·
          rintro _ ⟨b, rfl, hb⟩
          rw [show List.erase [7, 8, 9, 10] 7 = [8, 9, 10] from rfl]; simp only [Act.put, List.setIfInBounds_toArray, List.set_cons_zero, List.set_cons_succ]
          refine TxtT.pure 8 (by rfl) (by rw [List.getElem?_toArray]; rfl) (by rfl) (by as_aux_lemma => kernel_rfl) (by rfl) ?_; apply Exists.intro; refine ⟨fun w1 hS1 => ?_, ?_⟩; (focus (skip; go_simp; with_reducible rfl))
          rw [show List.erase [8, 9, 10] 8 = [9, 10] from rfl]; simp only [Act.put, List.setIfInBounds_toArray, List.set_cons_zero, List.set_cons_succ]
          refine TxtT.one 9 (by as_aux_lemma => kernel_rfl) (by rw [List.getElem?_toArray]; rfl) (by rfl) (by rfl) (fun v => ∃ q, v = Value.pointer (some ⟨q, 0, none⟩)) (fun v w' => ∃ q, v = Value.pointer (some ⟨q, 0, none⟩) ∧ BxC 64 #[.int .i64 0, .int .i64 0, .int .i64 0, .slice none 0 0] (some q) wr.heap.size w') (fun w1 hS1 hJ1 => ?_) ?_
          · exact Eff.value (w' := w1.alloc (.cells #[.int .i64 0, .int .i64 0, .int .i64 0, .slice none 0 0] 64)) (v := .pointer (some ⟨w1.heap.size, 0, none⟩)) (by go_simp) ⟨⟨hS1.1.kept (newB _ _), grownBy_trans hS1.2 (grownBy_of_below (newB _ _) _)⟩, ⟨_, rfl⟩, _, rfl, BxC.new hS1.2.size⟩
          rintro _ ⟨q, rfl⟩
          rw [show List.erase [9, 10] 9 = [10] from rfl]; simp only [Act.put, List.setIfInBounds_toArray, List.set_cons_zero, List.set_cons_succ]
          refine TxtT.weakJ (J2 := fun w' => BxC 64 #[.int .i64 0, .int .i64 0, .int .i64 0, .slice none 0 0] (some q) wr.heap.size w') (fun w1 h => by obtain ⟨q', hq, h⟩ := h; injection hq with hq; injection hq with hq; injection hq with hq _ _; subst hq; exact h) ?_
          refine TxtT.one 10 (by as_aux_lemma => kernel_rfl) (by rw [List.getElem?_toArray]; rfl) (by rfl) (by rfl) (fun v => v = undef) (fun _ w' => wr.heap.size ≤ q ∧ Blk w' q 64 #[.int .i64 (k : Int), .int .i64 (root : Int), .int .i64 (b : Int), .slice none 0 0]) (fun w1 hS1 hJ1 => ?_) ?_
          · obtain ⟨hq, hk4⟩ := hJ1 q rfl
            have z0 := hk4.frozen 0; have z1 := hk4.frozen 1; have z2 := hk4.frozen 2; have z3 := hk4.frozen 3
            have hst := (((hk4.set_ 0 (.int .i64 (k : Int))).set_ 1 (.int .i64 (root : Int))).set_ 2 (.int .i64 (b : Int))).set_ 3 (.slice none 0 0)
            have y0 : w1.cell? ⟨q, 0, none⟩ = some (.int .i64 0) := hk4.cell 0; have y1 : w1.cell? ⟨q, 1, none⟩ = some (.int .i64 0) := hk4.cell 1; have y2 : w1.cell? ⟨q, 2, none⟩ = some (.int .i64 0) := hk4.cell 2; have y3 : w1.cell? ⟨q, 3, none⟩ = some (.slice none 0 0) := hk4.cell 3
            exact Eff.skip (w' := (((w1.setCell ⟨q, 0, none⟩ (.int .i64 (k : Int))).setCell ⟨q, 1, none⟩ (.int .i64 (root : Int))).setCell ⟨q, 2, none⟩ (.int .i64 (b : Int))).setCell ⟨q, 3, none⟩ (.slice none 0 0)) (by go_simp) ⟨⟨src_set2 (src_set2 (src_set2 (src_set2 hS1.1 (by omega) _ _) (by omega) _ _) (by omega) _ _) (by omega) _ _, grown_set2 (grown_set2 (grown_set2 (grown_set2 hS1.2 hq _ _) hq _ _) hq _ _) hq _ _⟩, rfl, hq, hst⟩
          rintro _ rfl
          rw [show List.erase [10] 10 = [] from rfl]; simp only [Act.put]
          refine ⟨rfl, fun w1 hS1 hJ1 => ?_⟩
          go_wp2_with fail
          go_meet
          exact ⟨q, k, root, b, rfl, hk, hroot, hb, hJ1.1, ⟨hS1.1, grownBy_trans hg1 hS1.2, hJ1.2, OwnR.nil _ _, (fun x hx => by cases hx), List.Pairwise.nil⟩, hS1.2⟩
        ·
          rintro _ ⟨q, rfl⟩
          rw [show List.erase [7, 8, 9, 10] 9 = [7, 8, 10] from rfl]; simp only [Act.put, List.setIfInBounds_toArray, List.set_cons_zero, List.set_cons_succ]
          refine TxtT.weakJ (J2 := fun w' => BxC 64 #[.int .i64 0, .int .i64 0, .int .i64 0, .slice none 0 0] (some q) wr.heap.size w') (fun w1 h => by obtain ⟨q', hq, h⟩ := h; injection hq with hq; injection hq with hq; injection hq with hq _ _; subst hq; exact h) ?_
          refine TxtT.one 7 (by as_aux_lemma => kernel_rfl) (by rw [List.getElem?_toArray]; rfl) (by rfl) (by rfl) (fun v => ∃ x : Nat, v = Value.int .i64 (x : Int) ∧ (x = 1 ∨ x = 2)) (fun _ w' => BxC 64 #[.int .i64 0, .int .i64 0, .int .i64 0, .slice none 0 0] (some q) wr.heap.size w') (fun w1 hS1 hJ1 => ?_) ?_
          · refine Eff.call (f := 16) (args := #[.pointer (some ⟨p, 0, none⟩), .int .i64 1, .int .i64 2]) (by go_simp) ((krange_any p 1 2 w1 hS1.1 (by decide) (by decide) (by decide)).mono ?_)
            rintro e w' ⟨v, rfl, hv1, hv2, hs, hg⟩
            obtain ⟨v, rfl⟩ := Int.eq_ofNat_of_zero_le (by omega : (0 : Int) ≤ v)
            exact ⟨_, rfl, ⟨hs, grownBy_trans hS1.2 hg⟩, ⟨v, rfl, by omega⟩, BxC.grown hJ1 hg hpr⟩
          rintro _ ⟨b, rfl, hb⟩
          rw [show List.erase [7, 8, 10] 7 = [8, 10] from rfl]; simp only [Act.put, List.setIfInBounds_toArray, List.set_cons_zero, List.set_cons_succ]
          refine TxtT.pure 8 (by rfl) (by rw [List.getElem?_toArray]; rfl) (by rfl) (by as_aux_lemma => kernel_rfl) (by rfl) ?_; apply Exists.intro; refine ⟨fun w1 hS1 => ?_, ?_⟩; (focus (skip; go_simp; with_reducible rfl))
          rw [show List.erase [8, 10] 8 = [10] from rfl]; simp only [Act.put, List.setIfInBounds_toArray, List.set_cons_zero, List.set_cons_succ]
          refine TxtT.one 10 (by as_aux_lemma => kernel_rfl) (by rw [List.getElem?_toArray]; rfl) (by rfl) (by rfl) (fun v => v = undef) (fun _ w' => wr.heap.size ≤ q ∧ Blk w' q 64 #[.int .i64 (k : Int), .int .i64 (root : Int), .int .i64 (b : Int), .slice none 0 0]) (fun w1 hS1 hJ1 => ?_) ?_
          · obtain ⟨hq, hk4⟩ := hJ1 q rfl
            have z0 := hk4.frozen 0; have z1 := hk4.frozen 1; have z2 := hk4.frozen 2; have z3 := hk4.frozen 3
            have hst := (((hk4.set_ 0 (.int .i64 (k : Int))).set_ 1 (.int .i64 (root : Int))).set_ 2 (.int .i64 (b : Int))).set_ 3 (.slice none 0 0)
            have y0 : w1.cell? ⟨q, 0, none⟩ = some (.int .i64 0) := hk4.cell 0; have y1 : w1.cell? ⟨q, 1, none⟩ = some (.int .i64 0) := hk4.cell 1; have y2 : w1.cell? ⟨q, 2, none⟩ = some (.int .i64 0) := hk4.cell 2; have y3 : w1.cell? ⟨q, 3, none⟩ = some (.slice none 0 0) := hk4.cell 3
            exact Eff.skip (w' := (((w1.setCell ⟨q, 0, none⟩ (.int .i64 (k : Int))).setCell ⟨q, 1, none⟩ (.int .i64 (root : Int))).setCell ⟨q, 2, none⟩ (.int .i64 (b : Int))).setCell ⟨q, 3, none⟩ (.slice none 0 0)) (by go_simp) ⟨⟨src_set2 (src_set2 (src_set2 (src_set2 hS1.1 (by omega) _ _) (by omega) _ _) (by omega) _ _) (by omega) _ _, grown_set2 (grown_set2 (grown_set2 (grown_set2 hS1.2 hq _ _) hq _ _) hq _ _) hq _ _⟩, rfl, hq, hst⟩
          rintro _ rfl
          rw [show List.erase [10] 10 = [] from rfl]; simp only [Act.put]
          refine ⟨rfl, fun w1 hS1 hJ1 => ?_⟩
          go_wp2_with fail
          go_meet
          exact ⟨q, k, root, b, rfl, hk, hroot, hb, hJ1.1, ⟨hS1.1, grownBy_trans hg1 hS1.2, hJ1.2, OwnR.nil _ _, (fun x hx => by cases hx), List.Pairwise.nil⟩, hS1.2⟩
      ·
        rintro _ ⟨q, rfl⟩
        rw [show List.erase [5, 7, 8, 9, 10] 9 = [5, 7, 8, 10] from rfl]; simp only [Act.put, List.setIfInBounds_toArray, List.set_cons_zero, List.set_cons_succ]
        refine TxtT.weakJ (J2 := fun w' => BxC 64 #[.int .i64 0, .int .i64 0, .int .i64 0, .slice none 0 0] (some q) wr.heap.size w') (fun w1 h => by obtain ⟨q', hq, h⟩ := h; injection hq with hq; injection hq with hq; injection hq with hq _ _; subst hq; exact h) ?_
        refine TxtT.one 5 (by as_aux_lemma => kernel_rfl) (by rw [List.getElem?_toArray]; rfl) (by rfl) (by rfl) (fun v => ∃ x : Nat, v = Value.int .i64 (x : Int) ∧ x < n) (fun _ w' => BxC 64 #[.int .i64 0, .int .i64 0, .int .i64 0, .slice none 0 0] (some q) wr.heap.size w') (fun w1 hS1 hJ1 => ?_) ?_
        · refine Eff.call (f := 19) (args := #[.pointer (some ⟨p, 0, none⟩), .int .i64 (n : Int)]) (by go_simp) ((n_any p (n : Int) w1 hS1.1 (by omega) (by omega)).mono ?_)
          rintro e w' ⟨v, rfl, hv1, hv2, hs, hg⟩
          obtain ⟨v, rfl⟩ := Int.eq_ofNat_of_zero_le (by omega : (0 : Int) ≤ v)
          exact ⟨_, rfl, ⟨hs, grownBy_trans hS1.2 hg⟩, ⟨v, rfl, by omega⟩, BxC.grown hJ1 hg hpr⟩
        rintro _ ⟨root, rfl, hroot⟩
        rw [show List.erase [5, 7, 8, 10] 5 = [7, 8, 10] from rfl]; simp only [Act.put, List.setIfInBounds_toArray, List.set_cons_zero, List.set_cons_succ]
        refine TxtT.one 7 (by as_aux_lemma => kernel_rfl) (by rw [List.getElem?_toArray]; rfl) (by rfl) (by rfl) (fun v => ∃ x : Nat, v = Value.int .i64 (x : Int) ∧ (x = 1 ∨ x = 2)) (fun _ w' => BxC 64 #[.int .i64 0, .int .i64 0, .int .i64 0, .slice none 0 0] (some q) wr.heap.size w') (fun w1 hS1 hJ1 => ?_) ?_
        · refine Eff.call (f := 16) (args := #[.pointer (some ⟨p, 0, none⟩), .int .i64 1, .int .i64 2]) (by go_simp) ((krange_any p 1 2 w1 hS1.1 (by decide) (by decide) (by decide)).mono ?_)
          rintro e w' ⟨v, rfl, hv1, hv2, hs, hg⟩
          obtain ⟨v, rfl⟩ := Int.eq_ofNat_of_zero_le (by omega : (0 : Int) ≤ v)
          exact ⟨_, rfl, ⟨hs, grownBy_trans hS1.2 hg⟩, ⟨v, rfl, by omega⟩, BxC.grown hJ1 hg hpr⟩
        rintro _ ⟨b, rfl, hb⟩
        rw [show List.erase [7, 8, 10] 7 = [8, 10] from rfl]; simp only [Act.put, List.setIfInBounds_toArray, List.set_cons_zero, List.set_cons_succ]
        refine TxtT.pure 8 (by rfl) (by rw [List.getElem?_toArray]; rfl) (by rfl) (by as_aux_lemma => kernel_rfl) (by rfl) ?_; apply Exists.intro; refine ⟨fun w1 hS1 => ?_, ?_⟩; (focus (skip; go_simp; with_reducible rfl))
        rw [show List.erase [8, 10] 8 = [10] from rfl]; simp only [Act.put, List.setIfInBounds_toArray, List.set_cons_zero, List.set_cons_succ]
        refine TxtT.one 10 (by as_aux_lemma => kernel_rfl) (by rw [List.getElem?_toArray]; rfl) (by rfl) (by rfl) (fun v => v = undef) (fun _ w' => wr.heap.size ≤ q ∧ Blk w' q 64 #[.int .i64 (k : Int), .int .i64 (root : Int), .int .i64 (b : Int), .slice none 0 0]) (fun w1 hS1 hJ1 => ?_) ?_
        · obtain ⟨hq, hk4⟩ := hJ1 q rfl
          have z0 := hk4.frozen 0; have z1 := hk4.frozen 1; have z2 := hk4.frozen 2; have z3 := hk4.frozen 3
          have hst := (((hk4.set_ 0 (.int .i64 (k : Int))).set_ 1 (.int .i64 (root : Int))).set_ 2 (.int .i64 (b : Int))).set_ 3 (.slice none 0 0)
          have y0 : w1.cell? ⟨q, 0, none⟩ = some (.int .i64 0) := hk4.cell 0; have y1 : w1.cell? ⟨q, 1, none⟩ = some (.int .i64 0) := hk4.cell 1; have y2 : w1.cell? ⟨q, 2, none⟩ = some (.int .i64 0) := hk4.cell 2; have y3 : w1.cell? ⟨q, 3, none⟩ = some (.slice none 0 0) := hk4.cell 3
          exact Eff.skip (w' := (((w1.setCell ⟨q, 0, none⟩ (.int .i64 (k : Int))).setCell ⟨q, 1, none⟩ (.int .i64 (root : Int))).setCell ⟨q, 2, none⟩ (.int .i64 (b : Int))).setCell ⟨q, 3, none⟩ (.slice none 0 0)) (by go_simp) ⟨⟨src_set2 (src_set2 (src_set2 (src_set2 hS1.1 (by omega) _ _) (by omega) _ _) (by omega) _ _) (by omega) _ _, grown_set2 (grown_set2 (grown_set2 (grown_set2 hS1.2 hq _ _) hq _ _) hq _ _) hq _ _⟩, rfl, hq, hst⟩
        rintro _ rfl
        rw [show List.erase [10] 10 = [] from rfl]; simp only [Act.put]
        refine ⟨rfl, fun w1 hS1 hJ1 => ?_⟩
        go_wp2_with fail
        go_meet
        exact ⟨q, k, root, b, rfl, hk, hroot, hb, hJ1.1, ⟨hS1.1, grownBy_trans hg1 hS1.2, hJ1.2, OwnR.nil _ _, (fun x hx => by cases hx), List.Pairwise.nil⟩, hS1.2⟩
    ·
      rintro _ ⟨q, rfl⟩
      rw [show List.erase [1, 5, 7, 8, 9, 10] 9 = [1, 5, 7, 8, 10] from rfl]; simp only [Act.put, List.setIfInBounds_toArray, List.set_cons_zero, List.set_cons_succ]
      refine TxtT.weakJ (J2 := fun w' => BxC 64 #[.int .i64 0, .int .i64 0, .int .i64 0, .slice none 0 0] (some q) wr.heap.size w') (fun w1 h => by obtain ⟨q', hq, h⟩ := h; injection hq with hq; injection hq with hq; injection hq with hq _ _; subst hq; exact h) ?_
      refine TxtT.one 1 (by as_aux_lemma => kernel_rfl) (by rw [List.getElem?_toArray]; rfl) (by rfl) (by rfl) (fun v => ∃ x : Nat, v = Value.int .i64 (x : Int) ∧ (x = 1 ∨ x = 2)) (fun _ w' => BxC 64 #[.int .i64 0, .int .i64 0, .int .i64 0, .slice none 0 0] (some q) wr.heap.size w') (fun w1 hS1 hJ1 => ?_) ?_
      · refine Eff.call (f := 16) (args := #[.pointer (some ⟨p, 0, none⟩), .int .i64 1, .int .i64 2]) (by go_simp) ((krange_any p 1 2 w1 hS1.1 (by decide) (by decide) (by decide)).mono ?_)
        rintro e w' ⟨v, rfl, hv1, hv2, hs, hg⟩
        obtain ⟨v, rfl⟩ := Int.eq_ofNat_of_zero_le (by omega : (0 : Int) ≤ v)
        exact ⟨_, rfl, ⟨hs, grownBy_trans hS1.2 hg⟩, ⟨v, rfl, by omega⟩, BxC.grown hJ1 hg hpr⟩
      rintro _ ⟨k, rfl, hk⟩
      rw [show List.erase [1, 5, 7, 8, 10] 1 = [5, 7, 8, 10] from rfl]; simp only [Act.put, List.setIfInBounds_toArray, List.set_cons_zero, List.set_cons_succ]
      refine TxtT.one 5 (by as_aux_lemma => kernel_rfl) (by rw [List.getElem?_toArray]; rfl) (by rfl) (by rfl) (fun v => ∃ x : Nat, v = Value.int .i64 (x : Int) ∧ x < n) (fun _ w' => BxC 64 #[.int .i64 0, .int .i64 0, .int .i64 0, .slice none 0 0] (some q) wr.heap.size w') (fun w1 hS1 hJ1 => ?_) ?_
      · refine Eff.call (f := 19) (args := #[.pointer (some ⟨p, 0, none⟩), .int .i64 (n : Int)]) (by go_simp) ((n_any p (n : Int) w1 hS1.1 (by omega) (by omega)).mono ?_)
        rintro e w' ⟨v, rfl, hv1, hv2, hs, hg⟩
        obtain ⟨v, rfl⟩ := Int.eq_ofNat_of_zero_le (by omega : (0 : Int) ≤ v)
        exact ⟨_, rfl, ⟨hs, grownBy_trans hS1.2 hg⟩, ⟨v, rfl, by omega⟩, BxC.grown hJ1 hg hpr⟩
      rintro _ ⟨root, rfl, hroot⟩
      rw [show List.erase [5, 7, 8, 10] 5 = [7, 8, 10] from rfl]; simp only [Act.put, List.setIfInBounds_toArray, List.set_cons_zero, List.set_cons_succ]
      refine TxtT.one 7 (by as_aux_lemma => kernel_rfl) (by rw [List.getElem?_toArray]; rfl) (by rfl) (by rfl) (fun v => ∃ x : Nat, v = Value.int .i64 (x : Int) ∧ (x = 1 ∨ x = 2)) (fun _ w' => BxC 64 #[.int .i64 0, .int .i64 0, .int .i64 0, .slice none 0 0] (some q) wr.heap.size w') (fun w1 hS1 hJ1 => ?_) ?_
      · refine Eff.call (f := 16) (args := #[.pointer (some ⟨p, 0, none⟩), .int .i64 1, .int .i64 2]) (by go_simp) ((krange_any p 1 2 w1 hS1.1 (by decide) (by decide) (by decide)).mono ?_)
        rintro e w' ⟨v, rfl, hv1, hv2, hs, hg⟩
        obtain ⟨v, rfl⟩ := Int.eq_ofNat_of_zero_le (by omega : (0 : Int) ≤ v)
        exact ⟨_, rfl, ⟨hs, grownBy_trans hS1.2 hg⟩, ⟨v, rfl, by omega⟩, BxC.grown hJ1 hg hpr⟩
      rintro _ ⟨b, rfl, hb⟩
      rw [show List.erase [7, 8, 10] 7 = [8, 10] from rfl]; simp only [Act.put, List.setIfInBounds_toArray, List.set_cons_zero, List.set_cons_succ]
      refine TxtT.pure 8 (by rfl) (by rw [List.getElem?_toArray]; rfl) (by rfl) (by as_aux_lemma => kernel_rfl) (by rfl) ?_; apply Exists.intro; refine ⟨fun w1 hS1 => ?_, ?_⟩; (focus (skip; go_simp; with_reducible rfl))
      rw [show List.erase [8, 10] 8 = [10] from rfl]; simp only [Act.put, List.setIfInBounds_toArray, List.set_cons_zero, List.set_cons_succ]
      refine TxtT.one 10 (by as_aux_lemma => kernel_rfl) (by rw [List.getElem?_toArray]; rfl) (by rfl) (by rfl) (fun v => v = undef) (fun _ w' => wr.heap.size ≤ q ∧ Blk w' q 64 #[.int .i64 (k : Int), .int .i64 (root : Int), .int .i64 (b : Int), .slice none 0 0]) (fun w1 hS1 hJ1 => ?_) ?_
      · obtain ⟨hq, hk4⟩ := hJ1 q rfl
        have z0 := hk4.frozen 0; have z1 := hk4.frozen 1; have z2 := hk4.frozen 2; have z3 := hk4.frozen 3
        have hst := (((hk4.set_ 0 (.int .i64 (k : Int))).set_ 1 (.int .i64 (root : Int))).set_ 2 (.int .i64 (b : Int))).set_ 3 (.slice none 0 0)
        have y0 : w1.cell? ⟨q, 0, none⟩ = some (.int .i64 0) := hk4.cell 0; have y1 : w1.cell? ⟨q, 1, none⟩ = some (.int .i64 0) := hk4.cell 1; have y2 : w1.cell? ⟨q, 2, none⟩ = some (.int .i64 0) := hk4.cell 2; have y3 : w1.cell? ⟨q, 3, none⟩ = some (.slice none 0 0) := hk4.cell 3
        exact Eff.skip (w' := (((w1.setCell ⟨q, 0, none⟩ (.int .i64 (k : Int))).setCell ⟨q, 1, none⟩ (.int .i64 (root : Int))).setCell ⟨q, 2, none⟩ (.int .i64 (b : Int))).setCell ⟨q, 3, none⟩ (.slice none 0 0)) (by go_simp) ⟨⟨src_set2 (src_set2 (src_set2 (src_set2 hS1.1 (by omega) _ _) (by omega) _ _) (by omega) _ _) (by omega) _ _, grown_set2 (grown_set2 (grown_set2 (grown_set2 hS1.2 hq _ _) hq _ _) hq _ _) hq _ _⟩, rfl, hq, hst⟩
      rintro _ rfl
      rw [show List.erase [10] 10 = [] from rfl]; simp only [Act.put]
      refine ⟨rfl, fun w1 hS1 hJ1 => ?_⟩
      go_wp2_with fail
      go_meet
      exact ⟨q, k, root, b, rfl, hk, hroot, hb, hJ1.1, ⟨hS1.1, grownBy_trans hg1 hS1.2, hJ1.2, OwnR.nil _ _, (fun x hx => by cases hx), List.Pairwise.nil⟩, hS1.2⟩
  obtain ⟨q, k, root, b, rfl, hk, hroot, hb, hqw, hst, hgx⟩ := hcut
  have hszc := hgx.size
  have hqc := hst.hd.lt
  have hq1 : w.heap.size + 1 < q := by omega
  have hal0 : l ≠ [] → ∀ bb o, A = some ⟨bb, o, none⟩ → bb < w.heap.size := fun hne bb o e => by
    cases l with
    | nil => exact absurd rfl hne
    | cons x l =>
      obtain ⟨b', o', e', h1, -⟩ := hr 0 (by simp)
      rw [e] at e'; injection e' with e'; injection e' with e' _ _; subst e'
      exact lt_of_cell h1
  have hK0 : StK n l A c k root b p q wc.heap.size [] none 0 w wc :=
    { st := hst, d0 := hgx.cell c0 (by simp; omega), d1 := hgx.cell c1 (by simp; omega)
      rp := fun j hj => by
        obtain ⟨bb, o, e, h1, h2⟩ := hr1 j hj
        have hne := HAp.out (fun e => by rw [e] at hj; cases hj) bb o e
        exact ⟨bb, o, e, hgx.cell h1 (by simp; exact hne), hgx.cell h2 (by simp; exact hne)⟩
      bx := k4.grown hgx (fun e => by injection e with e; omega)
      sz := Nat.le_refl _ }
  obtain ⟨M, hM⟩ : ∃ M, wc.heap.size = M := ⟨_, rfl⟩
  rw [hM] at hK0 hqc
  have hal : l ≠ [] → ∀ bb o, A = some ⟨bb, o, none⟩ → bb < M := fun hne bb o e => by have := hal0 hne bb o e; omega
  have haq : ∀ bb o, A = some ⟨bb, o, none⟩ → l ≠ [] → bb ≠ q := fun bb o e hne => by have := hal0 hne bb o e; omega
  have HK0 := Lib.hid hK0; have Hal := Lib.hid hal; have Haq := Lib.hid haq
  clear hr1 c0 c1 k3 k4 hgx hs1 hg1 hs0 hst hr hK0 hal haq hal0 hszc hM
  go_wp2_with fail
  go_loopw [6] (fun t6 wx => ∃ (a : Nat) (OO : List (Nat × Nat)) (V : Option Addr) (cv : Nat), a ≤ n ∧ t6 = .int .i64 (a : Int) ∧ StK n l A c k root b p q M OO V cv w wx ∧ (∀ x ∈ OO, x.1 < a)) (fun t6 _ => n - (intOf t6).toNat)
  case atStart => exact ⟨0, [], none, 0, Nat.zero_le _, rfl, HK0.out, (fun x hx => by cases hx)⟩
  case round =>
    obtain ⟨a, OO, V, cv, ha, rfl, hst, hla⟩ := hrel
    have hol : OO.length ≤ n := asc_len hst.st.asc fun x hx => (hst.st.rng x hx).1
    have Hst := Lib.hid hst; have Hla := Lib.hid hla
    have d0 := hst.d0; have d1 := hst.d1
    by_cases han : a < n
    case neg =>
      have x0 : wr.cell? ⟨q, 0, none⟩ = some (.int .i64 (k : Int)) := hst.st.hd.cell 0
      have x1 : wr.cell? ⟨q, 1, none⟩ = some (.int .i64 (root : Int)) := hst.st.hd.cell 1
      have x2 : wr.cell? ⟨q, 2, none⟩ = some (.int .i64 (b : Int)) := hst.st.hd.cell 2
      have x3 : wr.cell? ⟨q, 3, none⟩ = some (.slice V OO.length cv) := hst.st.hd.cell 3
      have y0 : wr.cell? ⟨w.heap.size + 1, 0, none⟩ = some (.int .i64 0) := hst.bx.cell 0
      have y1 : wr.cell? ⟨w.heap.size + 1, 1, none⟩ = some (.int .i64 0) := hst.bx.cell 1
      have y2 : wr.cell? ⟨w.heap.size + 1, 2, none⟩ = some (.int .i64 0) := hst.bx.cell 2
      have y3 : wr.cell? ⟨w.heap.size + 1, 3, none⟩ = some (.slice none 0 0) := hst.bx.cell 3
      have z0 := hst.bx.frozen 0; have z1 := hst.bx.frozen 1; have z2 := hst.bx.frozen 2; have z3 := hst.bx.frozen 3
      have hfin := (((hst.bx.set_ 0 (.int .i64 (k : Int))).set_ 1 (.int .i64 (root : Int))).set_ 2 (.int .i64 (b : Int))).set_ 3 (.slice V OO.length cv)
      have hgf := grown_set2 (grown_set2 (grown_set2 (grown_set2 hst.st.gr (q := w.heap.size + 1) (by omega) 0 (.int .i64 (k : Int))) (q := w.heap.size + 1) (by omega) 1 (.int .i64 (root : Int))) (q := w.heap.size + 1) (by omega) 2 (.int .i64 (b : Int))) (q := w.heap.size + 1) (by omega) 3 (.slice V OO.length cv)
      have hsf := src_set2 (src_set2 (src_set2 (src_set2 hst.st.src (D := w.heap.size + 1) (by omega) 0 (.int .i64 (k : Int))) (D := w.heap.size + 1) (by omega) 1 (.int .i64 (root : Int))) (D := w.heap.size + 1) (by omega) 2 (.int .i64 (b : Int))) (D := w.heap.size + 1) (by omega) 3 (.slice V OO.length cv)
      have hof := (((hst.st.own.farB (a := ⟨w.heap.size + 1, 0, none⟩) (by show w.heap.size + 1 < M; omega) (.int .i64 (k : Int))).farB (a := ⟨w.heap.size + 1, 1, none⟩) (by show w.heap.size + 1 < M; omega) (.int .i64 (root : Int))).farB (a := ⟨w.heap.size + 1, 2, none⟩) (by show w.heap.size + 1 < M; omega) (.int .i64 (b : Int))).farB (a := ⟨w.heap.size + 1, 3, none⟩) (by show w.heap.size + 1 < M; omega) (.slice V OO.length cv)
      have hrf := OwnR.rp (l := OO.map toI) (by rw [List.length_map]; exact hof)
      have Hfin := Lib.hid hfin; have Hgf := Lib.hid hgf; have Hsf := Lib.hid hsf; have Hrf := Lib.hid hrf
      clear hfin hgf hsf hof hrf hst hla
      go_wp2_with fail
      have r0 := Hfin.out.cell 0; have r1 := Hfin.out.cell 1; have r2 := Hfin.out.cell 2; have r3 := Hfin.out.cell 3
      simp only [List.setIfInBounds_toArray, List.set_cons_zero, List.set_cons_succ, List.getElem?_toArray, List.getElem?_cons_zero, List.getElem?_cons_succ] at r0 r1 r2 r3
      refine bodyPost_ret (v := .agg #[.int .i64 (k : Int), .int .i64 (root : Int), .int .i64 (b : Int), .slice V OO.length cv]) (by simp [results, Tryd.results42, go_sem, r0, r1, r2, r3]) rfl ?_
      exact ⟨k, root, b, OO, V, cv, rfl, hk, hroot, hb, Hst.out.st.rng, Hst.out.st.asc, hol, Hrf.out, Hsf.out, Hgf.out⟩
    case pos =>
    have han' : (a : Int) < (n : Int) := by omega
    have hsr : SrcOk wr p := hst.st.src
    clear hst hla
    go_wp2_with fail
    refine (n_any p 3 wr hsr (by decide) (by decide)).mono ?_
    rintro e w2 ⟨v, rfl, hv1, hv2, hs2, hg2⟩
    have hst2 := Hst.out.grown hpl (by omega) hqc HAp.out hs2 hg2
    have d0 := hst2.d0; have d1 := hst2.d1
    have Hst2 := Lib.hid hst2
    clear hst2 Hst hsr hg2
    by_cases hv0 : v = 0
    · subst hv0
      clear hs2
      go_wp2_with fail
      go_roundw
      case rel => exact ⟨a + 1, OO, V, cv, by omega, by go_num, Hst2.out, fun x hx => by have := Hla.out x hx; omega⟩
      case measure => simp [intOf]; omega
    have hve : (v == 0) = false := by rw [beq_eq_false_iff_ne]; exact hv0
    clear hv0
    go_wp2_with fail
    refine (n_any p (n : Int) w2 hs2 (by omega) (by omega)).mono ?_
    rintro e w3 ⟨v3, rfl, hv31, hv32, hs3, hg3⟩
    obtain ⟨nd, rfl⟩ := Int.eq_ofNat_of_zero_le hv31
    have hst3 := Hst2.out.grown hpl (by omega) hqc HAp.out hs3 hg3
    have Hst3 := Lib.hid hst3
    have hnd : nd < n := by omega
    clear hst3 Hst2 hs2 hg3 hs3 d0 d1 hve hv1 hv2 hv31 hv32
    obtain ⟨wi, hwi⟩ : ∃ wi, wi = w3 := ⟨_, rfl⟩
    subst hwi
    go_upto_block 2 with fail
    go_cut [7] (fun t7 wx => ∃ x : Nat, t7 = .int .i64 (x : Int) ∧ x < n ∧ StK n l A c k root b p q M OO V cv w wx)
    case first =>
      go_wp2_with fail
      go_loopw [7, 8] (fun t7 t8 wx => ∃ x y : Nat, t7 = .int .i64 (x : Int) ∧ t8 = .int .i64 (y : Int) ∧ x < n ∧ y ≤ n ∧ StK n l A c k root b p q M OO V cv w wx) (fun _ t8 _ => n - (intOf t8).toNat)
      case atStart => exact ⟨nd, 0, rfl, rfl, hnd, Nat.zero_le _, Hst3.out⟩
      case round =>
        obtain ⟨x, y, rfl, rfl, hx, hy, hst⟩ := hrel
        have d0 := hst.d0; have d1 := hst.d1
        have hsr := hst.st.src
        have Hst := Lib.hid hst
        clear hst
        by_cases hyn : y < n
        case neg =>
          go_wp2_with fail
          go_meet
          exact ⟨x, rfl, hx, Hst.out⟩
        case pos =>
        have hyn' : (y : Int) < (n : Int) := by omega
        go_wp2_with fail
        refine (n_any p 5 wr hsr (by decide) (by decide)).mono ?_
        rintro e w5 ⟨v5, rfl, hv51, hv52, hs5, hg5⟩
        have hst5 := Hst.out.grown hpl (by omega) hqc HAp.out hs5 hg5
        have d0 := hst5.d0; have d1 := hst5.d1
        have hr5 := hst5.rp
        have Hst5 := Lib.hid hst5
        clear hst5 Hst hsr hg5 hs5
        by_cases hv5 : 0 < v5
        case neg =>
          have hd : decide (0 < v5) = false := decide_eq_false hv5
          clear hv5 hr5
          go_wp2_with fail
          go_meet
          exact ⟨x, rfl, hx, Hst5.out⟩
        case pos =>
        have hd : decide (0 < v5) = true := decide_eq_true hv5
        have Hhas := Lib.hid (gnHas_any A (n : Int) l c (y : Int) (a : Int) w5 hr5 HV.out.1.2.1)
        clear hv5 hr5
        go_wp2_with fail
        refine Hhas.out.mono ?_
        rintro e w6 ⟨rfl, hb6⟩
        have Hst6 := Lib.hid (Hst5.out.below hb6)
        clear hb6 Hst5 Hhas d0 d1
        cases hasB l (y : Int) (a : Int)
        · go_wp2_with fail
          go_roundw
          case rel => exact ⟨x, y + 1, rfl, by go_num, hx, by omega, Hst6.out⟩
          case measure => simp [intOf]; omega
        · go_wp2_with fail
          go_roundw
          case rel => exact ⟨y, y + 1, rfl, by go_num, hyn, by omega, Hst6.out⟩
          case measure => simp [intOf]; omega
    obtain ⟨x, rfl, hx, hst⟩ := hcut
    have x3 : wc.cell? ⟨q, 3, none⟩ = some (.slice V OO.length cv) := hst.st.hd.cell 3
    have Hst4 := Lib.hid hst
    have hown := hst.st.own
    have Hown := Lib.hid hown
    have hlo : (OO.map toI).length ≤ 1000000 := by rw [List.length_map]; omega
    have hfz : ∀ W : World, Below M wc W → W.grownBy W none → True := fun _ _ _ => trivial
    have hszM := hst.sz
    clear hst hown Hst3 hfz
    go_wp2_with (at_builtin; refine wpList_appR2 (by rfl) _ _ (by rfl) wc M _ _ (toI (a, x)) Hown.out (by rfl) (by rfl) hlo hszM ?_; intro v5 w5 ho5 hb5 hg5 hl5; (obtain ⟨A5, c5, e5⟩ := OwnR.formR ho5); (have e6 : (OO.map toI ++ [toI (a, x)]).length = (OO ++ [(a, x)]).length := by simp); (rw [e6] at e5); subst e5; (have hmo := Lib.hid (Hst4.out.more hpl hq1 hqc Hal.out Haq.out (x := (a, x)) ⟨han, hx⟩ Hla.out (A' := A5) (c' := c5) (N := OO.length + 1) (by simp) (by rw [List.map_append]; exact ho5) hb5 hg5)); (have z3 := (Hst4.out.st.hd.grown hg5 (fun e => by have := (World.ownsRow.lt Hown.out q e.symm).1; omega)).frozen 3); (have y3 := (Hst4.out.st.hd.grown hg5 (fun e => by have := (World.ownsRow.lt Hown.out q e.symm).1; omega)).cell 3); clear ho5 hb5 hg5 hl5 e6)
    go_roundw
    case rel => exact ⟨a + 1, OO ++ [(a, x)], A5, c5, by omega, by go_num, hmo.out, fun z hz => by
      rw [List.mem_append, List.mem_singleton] at hz
      rcases hz with hz | rfl
      · have := Hla.out z hz; omega
      · exact Nat.lt_succ_self a⟩
    case measure => simp [intOf]; omega
end Go.Proofs.YtncimnfhfomddaaDoor
