/- law25: the walk of GamePlayed. Printed by gen_pla.py. -/
import Derived.Test.YtncimnfhfomddaaDoorSvA
import Derived.Test.YtncimnfhfomddaaDoorPlyW
import Derived.Test.YtncimnfhfomddaaDoorStrW
namespace Go.Proofs.YtncimnfhfomddaaDoor
open Go.ChangeShapes Go.WideShapes Go.ChangeAt Go.RowKit

/-- replies in memory -/
def YsX (n : Nat) (_ : List (Int × Int)) (_ _ : Nat) (A : Option Addr) (m : Nat) (w : World) : Prop := ∃ OO : List (Nat × Nat), OO.length = m ∧ OO.length ≤ n ∧ AscR OO ∧ (∀ q ∈ OO, q.1 < n ∧ q.2 < n) ∧ RP w A (OO.map toI)
section
variable {n : Nat} {l : List (Int × Int)} {k root m : Nat} {A : Option Addr} {w w' : World}
theorem YsX.below (h : YsX n l k root A m w) (hb : Below w.heap.size w w') : YsX n l k root A m w' := by
  obtain ⟨OO, h1, h2, h3, h4, h5⟩ := h
  exact ⟨OO, h1, h2, h3, h4, h5.below hb⟩
theorem YsX.far (h : YsX n l k root A m w) {q : Nat} (hq : m ≠ 0 → ∀ b o, A = some ⟨b, o, none⟩ → b ≠ q) (i : Nat) (v : Value) : YsX n l k root A m (w.setCell ⟨q, i, none⟩ v) := by
  obtain ⟨OO, h1, h2, h3, h4, h5⟩ := h
  refine ⟨OO, h1, h2, h3, h4, fun j hj => ?_⟩
  obtain ⟨b, o, e, c0, c1⟩ := h5 j hj
  have hne := hq (fun e => by rw [List.length_map] at hj; omega) b o e
  exact ⟨b, o, e, (World.cell?_setCell_far _ _ _ _ (Ne.symm hne)).trans c0, (World.cell?_setCell_far _ _ _ _ (Ne.symm hne)).trans c1⟩
theorem YsX.grown (h : YsX n l k root A m w) {p : Nat} (hg : w.grownBy w' (some p)) (hq : m ≠ 0 → ∀ b o, A = some ⟨b, o, none⟩ → b ≠ p) : YsX n l k root A m w' := by
  obtain ⟨OO, h1, h2, h3, h4, h5⟩ := h
  refine ⟨OO, h1, h2, h3, h4, fun j hj => ?_⟩
  obtain ⟨b, o, e, c0, c1⟩ := h5 j hj
  have hne := hq (fun e => by rw [List.length_map] at hj; omega) b o e
  exact ⟨b, o, e, hg.cell c0 (by simp; exact hne), hg.cell c1 (by simp; exact hne)⟩
theorem YsX.lt (h : YsX n l k root A m w) (hm : m ≠ 0) (b o : Nat) (e : A = some ⟨b, o, none⟩) : b < w.heap.size := by
  obtain ⟨OO, h1, h2, h3, h4, h5⟩ := h
  obtain ⟨b', o', e', c0, -⟩ := h5 0 (by rw [List.length_map]; omega)
  rw [e] at e'; injection e' with e'; injection e' with e' _ _; subst e'
  exact lt_of_cell c0
end
theorem RI.grownP {w0 w w' : World} {A : Option Addr} {l : List Int} {p : Nat} (h : RI w A l) (h0 : RI w0 A l) (hp : w0.heap.size ≤ p) (hg : w.grownBy w' (some p)) : RI w' A l := fun j hj => by
  obtain ⟨b, o, e, h1⟩ := h j hj
  obtain ⟨b', o', e', h2⟩ := h0 j hj
  rw [e] at e'; injection e' with e'; injection e' with e1 e2 _; subst e1; subst e2
  have := lt_of_cell h2
  exact ⟨b, o, e, hg.cell h1 (by simp; simp at this; omega)⟩
/-- the strategy number j among those that are tried -/
def YsJ (n : Nat) (g8 j k root b : Nat) (A : Option Addr) (OO : List (Nat × Nat)) (c : Nat) (w : World) : Prop :=
  (w.cell? ⟨g8, j * 4, none⟩ = some (.int .i64 (k : Int)) ∧ w.cell? ⟨g8, j * 4 + 1, none⟩ = some (.int .i64 (root : Int)) ∧ w.cell? ⟨g8, j * 4 + 2, none⟩ = some (.int .i64 (b : Int)) ∧ w.cell? ⟨g8, j * 4 + 3, none⟩ = some (.slice A OO.length c)) ∧
  (k = 1 ∨ k = 2) ∧ root < n ∧ (b = 1 ∨ b = 2) ∧ OO.length ≤ n ∧ AscR OO ∧ (∀ q ∈ OO, q.1 < n ∧ q.2 < n) ∧ RP w A (OO.map toI)

set_option maxRecDepth 100000 in
set_option maxHeartbeats 16000000 in
theorem pla_law_any (A : Option Addr) (arg : List Int) (c : Nat) (AP : Option Addr) (picks : List Int) (cp : Nat) (w : World)
    (hlc : arg.length ≤ c) (hc : c ≤ 9223372036854775807) (hr : RI w A arg) (hx : ∀ x ∈ arg, -9223372036854775808 ≤ x ∧ x ≤ 9223372036854775807)
    (hlp : picks.length ≤ 9223372036854775807) (hrp : RI w AP picks) (_hpn : AP = none → picks = [] ∧ cp = 0) (hpx : ∀ x ∈ picks, -9223372036854775808 ≤ x ∧ x ≤ 9223372036854775807) (hT : Tab w) :
    Calls Tryd.prog 10 #[.slice A arg.length c, .slice AP picks.length cp] w (RetB (.bool true) w) := by
  have Hpx := Lib.hid hpx
  clear hpx
  go_enter Tryd.func10, Tryd.ntmps10
  go_wp2_with fail
  refine (new_any A arg c w hlc hc hr hx).mono ?_
  rintro e w1 ⟨p, rfl, hp, hs1, hb1⟩
  have hpw0 := hp
  have hrp1 := hrp.below hb1; have hT1 := hT.below hb1
  have htb : 0 < w.heap.size := lt_of_cell (hT 0 (by decide))
  have hpl := hs1.lt
  clear hr hx
  go_wp2_with fail
  refine (netGraph_any p 8 w1 hs1 (by omega) (by omega)).mono ?_
  rintro e w2 ⟨n, l, AL, cl, rfl, hN1, hN, hv, hrg, hloc, hs2, hg2, hAn⟩
  have hb2 : Below w.heap.size w w2 := hb1.trans (below_of_grownBy hg2 hp hb1.size)
  have HV := Lib.hid hv
  have hrp2 : RI w2 AP picks := hrp1.grownP hrp hp hg2
  have hpw : p < w2.heap.size := Nat.lt_of_lt_of_le hpl hg2.size
  have hal1 : ∀ b o, AL = some ⟨b, o, none⟩ → b ≠ p := fun b o e => by have := hloc b o e; omega
  clear hs1 hb1 hg2 hv hloc hAn hrp1
  go_upto_region 3 with fail
  obtain ⟨W0, hW, k0, hb0, hs0⟩ := boxA w2 24 #[.int .i64 (n : Int), .slice AL l.length cl]
  rw [hW]
  obtain ⟨c0, c1, -, -⟩ := k0.two
  have hrg0 := hrg.below hb0
  have hrp0 := hrp2.below hb0
  have hB0 := endB hb2 hb0
  have hT0 := hT.below hB0
  have hs2 := hs2.kept hb0
  have hpr : p < W0.heap.size := by omega
  have htp : 0 < p := by omega
  have hpG : p ≠ w2.heap.size := by omega
  have hrpW : ∀ W, W0.grownBy W (some p) → RP W AL l := fun W hW j hj => by
    obtain ⟨b, o, e, h1, h2⟩ := hrg0 j hj
    have hne := hal1 b o e
    exact ⟨b, o, e, hW.cell h1 (by simp; exact hne), hW.cell h2 (by simp; exact hne)⟩
  have hriW : ∀ W, W0.grownBy W (some p) → RI W AP picks := fun W hW => hrp0.grownP hrp hpw0 hW
  have Hrp := Lib.hid hrpW; have Hri := Lib.hid hriW
  have hal : l ≠ [] → ∀ b o, AL = some ⟨b, o, none⟩ → b ≠ p := fun _ => hal1
  have Hal := Lib.hid hal
  clear hW k0 hb0 hrg hrg0 hrp0 hrp2 hb2 hT hs0 hrpW hriW hal hal1
  generalize w2.heap.size = G at *
  go_cut [7, 8] (fun t7 t8 wx => ∃ (q k root : Nat) (A5 : Option Addr) (m5 c5 : Nat), t7 = .pointer (some ⟨q, 0, none⟩) ∧ t8 = .int .i64 0 ∧ (k = 1 ∨ k = 2) ∧ root < n ∧ W0.heap.size ≤ q ∧ Blk wx q 64 #[.int .i64 (k : Int), .int .i64 (root : Int), .int .i64 (byW n l k root : Int), .slice A5 m5 c5] ∧ YsX n l k root A5 m5 wx ∧ (∀ b o, A5 = some ⟨b, o, none⟩ → W0.heap.size ≤ b) ∧ SrcOk wx p ∧ W0.grownBy wx (some p))
  case first =>
    refine wp_region_tree [2, 6, 7, 11, 12] (fun w' => SrcOk w' p ∧ W0.grownBy w' (some p)) (fun w' => BxC 64 #[.int .i64 0, .int .i64 0, .int .i64 0, .slice none 0 0] none W0.heap.size w') 14 [0, 1, 2, 3, 4, 5, 6, 7, 8, 9, 10, 11, 12, 13] (by rfl) (by decide) (by kernel_rfl) (by kernel_rfl) ⟨hs2.kept (Below.refl _ _).drew, grownBy_of_below (Below.refl _ _).drew _⟩ BxC.no ?_
    refine TxtT.pure 0 (by rfl) (by rw [List.getElem?_toArray]; rfl) (by rfl) (by as_aux_lemma => kernel_rfl) (by rfl) ?_; apply Exists.intro; refine ⟨fun w1 hS1 => ?_, ?_⟩; (focus ((have g0 := hS1.2.cell c0 (by simp; omega); have g1 := hS1.2.cell c1 (by simp; omega)); go_simp; with_reducible rfl))
    rw [show List.erase [0, 1, 2, 3, 4, 5, 6, 7, 8, 9, 10, 11, 12, 13] 0 = [1, 2, 3, 4, 5, 6, 7, 8, 9, 10, 11, 12, 13] from rfl]; simp only [Act.put, List.setIfInBounds_toArray, List.set_cons_zero, List.set_cons_succ]
    refine TxtT.pure 1 (by rfl) (by rw [List.getElem?_toArray]; rfl) (by rfl) (by as_aux_lemma => kernel_rfl) (by rfl) ?_; apply Exists.intro; refine ⟨fun w1 hS1 => ?_, ?_⟩; (focus (skip; go_simp; with_reducible rfl))
    rw [show List.erase [1, 2, 3, 4, 5, 6, 7, 8, 9, 10, 11, 12, 13] 1 = [2, 3, 4, 5, 6, 7, 8, 9, 10, 11, 12, 13] from rfl]; simp only [Act.put, List.setIfInBounds_toArray, List.set_cons_zero, List.set_cons_succ]
    refine TxtT.pure 3 (by rfl) (by rw [List.getElem?_toArray]; rfl) (by rfl) (by as_aux_lemma => kernel_rfl) (by rfl) ?_; apply Exists.intro; refine ⟨fun w1 hS1 => ?_, ?_⟩; (focus (skip; go_simp; with_reducible rfl))
    rw [show List.erase [2, 3, 4, 5, 6, 7, 8, 9, 10, 11, 12, 13] 3 = [2, 4, 5, 6, 7, 8, 9, 10, 11, 12, 13] from rfl]; simp only [Act.put, List.setIfInBounds_toArray, List.set_cons_zero, List.set_cons_succ]
    refine TxtT.pure 4 (by rfl) (by rw [List.getElem?_toArray]; rfl) (by rfl) (by as_aux_lemma => kernel_rfl) (by rfl) ?_; apply Exists.intro; refine ⟨fun w1 hS1 => ?_, ?_⟩; (focus (skip; go_simp; with_reducible rfl))
    rw [show List.erase [2, 4, 5, 6, 7, 8, 9, 10, 11, 12, 13] 4 = [2, 5, 6, 7, 8, 9, 10, 11, 12, 13] from rfl]; simp only [Act.put, List.setIfInBounds_toArray, List.set_cons_zero, List.set_cons_succ]
    refine TxtT.pure 5 (by rfl) (by rw [List.getElem?_toArray]; rfl) (by rfl) (by as_aux_lemma => kernel_rfl) (by rfl) ?_; apply Exists.intro; refine ⟨fun w1 hS1 => ?_, ?_⟩; (focus ((have g0 := hS1.2.cell c0 (by simp; omega); have g1 := hS1.2.cell c1 (by simp; omega)); go_simp; with_reducible rfl))
    rw [show List.erase [2, 5, 6, 7, 8, 9, 10, 11, 12, 13] 5 = [2, 6, 7, 8, 9, 10, 11, 12, 13] from rfl]; simp only [Act.put, List.setIfInBounds_toArray, List.set_cons_zero, List.set_cons_succ]
    refine TxtT.two 2 11 (by as_aux_lemma => kernel_rfl) (by rw [List.getElem?_toArray]; rfl) (by rw [List.getElem?_toArray]; rfl) (by rfl) (by rfl) (by rfl) (by rfl) (fun v => ∃ x : Nat, v = Value.int .i64 (x : Int) ∧ (x = 1 ∨ x = 2)) (fun _ w' => BxC 64 #[.int .i64 0, .int .i64 0, .int .i64 0, .slice none 0 0] none W0.heap.size w') (fun v => ∃ q, v = Value.pointer (some ⟨q, 0, none⟩)) (fun v w' => ∃ q, v = Value.pointer (some ⟨q, 0, none⟩) ∧ BxC 64 #[.int .i64 0, .int .i64 0, .int .i64 0, .slice none 0 0] (some q) W0.heap.size w') (fun w1 hS1 hJ1 => ?_) (fun w1 hS1 hJ1 => ?_) ?_ ?_
    · refine Eff.call (f := 16) (args := #[.pointer (some ⟨p, 0, none⟩), .int .i64 1, .int .i64 2]) (by go_simp) ((krange_any p 1 2 w1 hS1.1 (by decide) (by decide) (by decide)).mono ?_)
      rintro e w' ⟨v, rfl, hv1, hv2, hs, hg⟩
      obtain ⟨v, rfl⟩ := Int.eq_ofNat_of_zero_le (by omega : (0 : Int) ≤ v)
      exact ⟨_, rfl, ⟨hs, grownBy_trans hS1.2 hg⟩, ⟨v, rfl, by omega⟩, BxC.grown hJ1 hg hpr⟩
    · exact Eff.value (w' := w1.alloc (.cells #[.int .i64 0, .int .i64 0, .int .i64 0, .slice none 0 0] 64)) (v := .pointer (some ⟨w1.heap.size, 0, none⟩)) (by go_simp) ⟨⟨hS1.1.kept (newB _ _), grownBy_trans hS1.2 (grownBy_of_below (newB _ _) _)⟩, ⟨_, rfl⟩, _, rfl, BxC.new hS1.2.size⟩
    ·
      rintro _ ⟨k, rfl, hk⟩
      rw [show List.erase [2, 6, 7, 8, 9, 10, 11, 12, 13] 2 = [6, 7, 8, 9, 10, 11, 12, 13] from rfl]; simp only [Act.put, List.setIfInBounds_toArray, List.set_cons_zero, List.set_cons_succ]
      refine TxtT.two 6 11 (by as_aux_lemma => kernel_rfl) (by rw [List.getElem?_toArray]; rfl) (by rw [List.getElem?_toArray]; rfl) (by rfl) (by rfl) (by rfl) (by rfl) (fun v => ∃ x : Nat, v = Value.int .i64 (x : Int) ∧ x < n) (fun _ w' => BxC 64 #[.int .i64 0, .int .i64 0, .int .i64 0, .slice none 0 0] none W0.heap.size w') (fun v => ∃ q, v = Value.pointer (some ⟨q, 0, none⟩)) (fun v w' => ∃ q, v = Value.pointer (some ⟨q, 0, none⟩) ∧ BxC 64 #[.int .i64 0, .int .i64 0, .int .i64 0, .slice none 0 0] (some q) W0.heap.size w') (fun w1 hS1 hJ1 => ?_) (fun w1 hS1 hJ1 => ?_) ?_ ?_
      · refine Eff.call (f := 19) (args := #[.pointer (some ⟨p, 0, none⟩), .int .i64 (n : Int)]) (by go_simp) ((n_any p (n : Int) w1 hS1.1 (by omega) (by omega)).mono ?_)
        rintro e w' ⟨v, rfl, hv1, hv2, hs, hg⟩
        obtain ⟨v, rfl⟩ := Int.eq_ofNat_of_zero_le (by omega : (0 : Int) ≤ v)
        exact ⟨_, rfl, ⟨hs, grownBy_trans hS1.2 hg⟩, ⟨v, rfl, by omega⟩, BxC.grown hJ1 hg hpr⟩
      · exact Eff.value (w' := w1.alloc (.cells #[.int .i64 0, .int .i64 0, .int .i64 0, .slice none 0 0] 64)) (v := .pointer (some ⟨w1.heap.size, 0, none⟩)) (by go_simp) ⟨⟨hS1.1.kept (newB _ _), grownBy_trans hS1.2 (grownBy_of_below (newB _ _) _)⟩, ⟨_, rfl⟩, _, rfl, BxC.new hS1.2.size⟩
      ·
        rintro _ ⟨root, rfl, hroot⟩
        rw [show List.erase [6, 7, 8, 9, 10, 11, 12, 13] 6 = [7, 8, 9, 10, 11, 12, 13] from rfl]; simp only [Act.put, List.setIfInBounds_toArray, List.set_cons_zero, List.set_cons_succ]
        refine TxtT.two 7 11 (by as_aux_lemma => kernel_rfl) (by rw [List.getElem?_toArray]; rfl) (by rw [List.getElem?_toArray]; rfl) (by rfl) (by rfl) (by rfl) (by rfl) (fun v => ∃ (A : Option Addr) (m c : Nat), v = Value.tuple #[.agg #[.int .i64 (k : Int), .int .i64 (root : Int), .int .i64 (byW n l k root : Int), .slice A m c], .int .i64 0]) (fun v w' => ∃ (A : Option Addr) (m c : Nat), v = Value.tuple #[.agg #[.int .i64 (k : Int), .int .i64 (root : Int), .int .i64 (byW n l k root : Int), .slice A m c], .int .i64 0] ∧ BxC 64 #[.int .i64 0, .int .i64 0, .int .i64 0, .slice none 0 0] none W0.heap.size w' ∧ YsX n l k root A m w' ∧ (∀ b o, A = some ⟨b, o, none⟩ → W0.heap.size ≤ b) ∧ ∀ q2, (none : Option Nat) = some q2 → m ≠ 0 → ∀ b o, A = some ⟨b, o, none⟩ → b ≠ q2) (fun v => ∃ q, v = Value.pointer (some ⟨q, 0, none⟩)) (fun v w' => ∃ q, v = Value.pointer (some ⟨q, 0, none⟩) ∧ BxC 64 #[.int .i64 0, .int .i64 0, .int .i64 0, .slice none 0 0] (some q) W0.heap.size w') (fun w1 hS1 hJ1 => ?_) (fun w1 hS1 hJ1 => ?_) ?_ ?_
        · refine Eff.call (f := 35) (args := #[.agg #[.int .i64 (n : Int), .slice AL l.length cl], .int .i64 (k : Int), .int .i64 (root : Int)]) (by go_simp) ((gSolveU_any AL cl k root hk HV.out hroot (by omega) w1 (Hrp.out w1 hS1.2) (Tab.grown hT0 hS1.2 htp)).mono ?_)
          rintro e w' ⟨OO, A, c, rfl, h1, h2, h3, h4, h5, -, -, -, hb⟩
          exact ⟨_, rfl, ⟨hS1.1.kept hb, grownBy_trans hS1.2 (grownBy_of_below hb _)⟩, ⟨A, OO.length, c, rfl⟩, A, OO.length, c, rfl, BxC.below hJ1 hb, ⟨OO, rfl, h1, h3, h5, h2⟩, fun b o e => Nat.le_trans hS1.2.size (h4 b o e), fun q e _ b o e2 => by have := h4 b o e2; have := (hJ1 q e).2.lt; omega⟩
        · exact Eff.value (w' := w1.alloc (.cells #[.int .i64 0, .int .i64 0, .int .i64 0, .slice none 0 0] 64)) (v := .pointer (some ⟨w1.heap.size, 0, none⟩)) (by go_simp) ⟨⟨hS1.1.kept (newB _ _), grownBy_trans hS1.2 (grownBy_of_below (newB _ _) _)⟩, ⟨_, rfl⟩, _, rfl, BxC.new hS1.2.size⟩
        ·
          rintro _ ⟨A5, m5, c5, rfl⟩
          rw [show List.erase [7, 8, 9, 10, 11, 12, 13] 7 = [8, 9, 10, 11, 12, 13] from rfl]; simp only [Act.put, List.setIfInBounds_toArray, List.set_cons_zero, List.set_cons_succ]
          refine TxtT.weakJ (J2 := fun w' => BxC 64 #[.int .i64 0, .int .i64 0, .int .i64 0, .slice none 0 0] none W0.heap.size w' ∧ YsX n l k root A5 m5 w' ∧ (∀ b o, A5 = some ⟨b, o, none⟩ → W0.heap.size ≤ b) ∧ ∀ q2, (none : Option Nat) = some q2 → m5 ≠ 0 → ∀ b o, A5 = some ⟨b, o, none⟩ → b ≠ q2) (fun w1 h => by obtain ⟨A, m, c, e, h⟩ := h; injection e with e; injection e with e; injection e with e _; injection e with e; injection e with e; injection e with _ e; injection e with _ e; injection e with _ e; injection e with e _; injection e with e1 e2 _; subst e1; subst e2; exact h) ?_
          refine TxtT.pure 8 (by rfl) (by rw [List.getElem?_toArray]; rfl) (by rfl) (by as_aux_lemma => kernel_rfl) (by rfl) ?_; apply Exists.intro; refine ⟨fun w1 hS1 => ?_, ?_⟩; (focus (skip; go_simp; with_reducible rfl))
          rw [show List.erase [8, 9, 10, 11, 12, 13] 8 = [9, 10, 11, 12, 13] from rfl]; simp only [Act.put, List.setIfInBounds_toArray, List.set_cons_zero, List.set_cons_succ]
          refine TxtT.pure 9 (by rfl) (by rw [List.getElem?_toArray]; rfl) (by rfl) (by as_aux_lemma => kernel_rfl) (by rfl) ?_; apply Exists.intro; refine ⟨fun w1 hS1 => ?_, ?_⟩; (focus (skip; go_simp; with_reducible rfl))
          rw [show List.erase [9, 10, 11, 12, 13] 9 = [10, 11, 12, 13] from rfl]; simp only [Act.put, List.setIfInBounds_toArray, List.set_cons_zero, List.set_cons_succ]
          refine TxtT.pure 10 (by rfl) (by rw [List.getElem?_toArray]; rfl) (by rfl) (by as_aux_lemma => kernel_rfl) (by rfl) ?_; apply Exists.intro; refine ⟨fun w1 hS1 => ?_, ?_⟩; (focus (skip; go_simp; with_reducible rfl))
          rw [show List.erase [10, 11, 12, 13] 10 = [11, 12, 13] from rfl]; simp only [Act.put, List.setIfInBounds_toArray, List.set_cons_zero, List.set_cons_succ]
          refine TxtT.one 11 (by as_aux_lemma => kernel_rfl) (by rw [List.getElem?_toArray]; rfl) (by rfl) (by rfl) (fun v => ∃ q, v = Value.pointer (some ⟨q, 0, none⟩)) (fun v w' => ∃ q, v = Value.pointer (some ⟨q, 0, none⟩) ∧ BxC 64 #[.int .i64 0, .int .i64 0, .int .i64 0, .slice none 0 0] (some q) W0.heap.size w' ∧ YsX n l k root A5 m5 w' ∧ (∀ b o, A5 = some ⟨b, o, none⟩ → W0.heap.size ≤ b) ∧ ∀ q', some q = some q' → m5 ≠ 0 → ∀ b o, A5 = some ⟨b, o, none⟩ → b ≠ q') (fun w1 hS1 hJ1 => ?_) ?_
          · exact Eff.value (w' := w1.alloc (.cells #[.int .i64 0, .int .i64 0, .int .i64 0, .slice none 0 0] 64)) (v := .pointer (some ⟨w1.heap.size, 0, none⟩)) (by go_simp) ⟨⟨hS1.1.kept (newB _ _), grownBy_trans hS1.2 (grownBy_of_below (newB _ _) _)⟩, ⟨_, rfl⟩, _, rfl, BxC.new hS1.2.size, hJ1.2.1.below (newB _ _), hJ1.2.2.1, fun q e hm b o e2 => by injection e with e; have := hJ1.2.1.lt hm b o e2; omega⟩
          rintro _ ⟨q, rfl⟩
          rw [show List.erase [11, 12, 13] 11 = [12, 13] from rfl]; simp only [Act.put, List.setIfInBounds_toArray, List.set_cons_zero, List.set_cons_succ]
          refine TxtT.weakJ (J2 := fun w' => BxC 64 #[.int .i64 0, .int .i64 0, .int .i64 0, .slice none 0 0] (some q) W0.heap.size w' ∧ YsX n l k root A5 m5 w' ∧ (∀ b o, A5 = some ⟨b, o, none⟩ → W0.heap.size ≤ b) ∧ ∀ q', some q = some q' → m5 ≠ 0 → ∀ b o, A5 = some ⟨b, o, none⟩ → b ≠ q') (fun w1 h => by obtain ⟨q', hq, h⟩ := h; injection hq with hq; injection hq with hq; injection hq with hq _ _; subst hq; exact h) ?_
          refine TxtT.one 12 (by as_aux_lemma => kernel_rfl) (by rw [List.getElem?_toArray]; rfl) (by rfl) (by rfl) (fun v => v = undef) (fun _ w' => W0.heap.size ≤ q ∧ Blk w' q 64 #[.int .i64 (k : Int), .int .i64 (root : Int), .int .i64 (byW n l k root : Int), .slice A5 m5 c5] ∧ YsX n l k root A5 m5 w' ∧ ∀ b o, A5 = some ⟨b, o, none⟩ → W0.heap.size ≤ b) (fun w1 hS1 hJ1 => ?_) ?_
          · obtain ⟨hq, hk4⟩ := hJ1.1 q rfl
            have z0 := hk4.frozen 0; have z1 := hk4.frozen 1; have z2 := hk4.frozen 2; have z3 := hk4.frozen 3
            have hst := (((hk4.set_ 0 (.int .i64 (k : Int))).set_ 1 (.int .i64 (root : Int))).set_ 2 (.int .i64 (byW n l k root : Int))).set_ 3 (.slice A5 m5 c5)
            have y0 : w1.cell? ⟨q, 0, none⟩ = some (.int .i64 0) := hk4.cell 0; have y1 : w1.cell? ⟨q, 1, none⟩ = some (.int .i64 0) := hk4.cell 1; have y2 : w1.cell? ⟨q, 2, none⟩ = some (.int .i64 0) := hk4.cell 2; have y3 : w1.cell? ⟨q, 3, none⟩ = some (.slice none 0 0) := hk4.cell 3
            have hy := (((hJ1.2.1.far (hJ1.2.2.2 q rfl) 0 (.int .i64 (k : Int))).far (hJ1.2.2.2 q rfl) 1 (.int .i64 (root : Int))).far (hJ1.2.2.2 q rfl) 2 (.int .i64 (byW n l k root : Int))).far (hJ1.2.2.2 q rfl) 3 (.slice A5 m5 c5)
            exact Eff.skip (w' := (((w1.setCell ⟨q, 0, none⟩ (.int .i64 (k : Int))).setCell ⟨q, 1, none⟩ (.int .i64 (root : Int))).setCell ⟨q, 2, none⟩ (.int .i64 (byW n l k root : Int))).setCell ⟨q, 3, none⟩ (.slice A5 m5 c5)) (by go_simp) ⟨⟨src_set2 (src_set2 (src_set2 (src_set2 hS1.1 (by omega) _ _) (by omega) _ _) (by omega) _ _) (by omega) _ _, grown_set2 (grown_set2 (grown_set2 (grown_set2 hS1.2 hq _ _) hq _ _) hq _ _) hq _ _⟩, rfl, hq, hst, hy, hJ1.2.2.1⟩
          rintro _ rfl
          rw [show List.erase [12, 13] 12 = [13] from rfl]; simp only [Act.put]
          refine TxtT.pure 13 (by rfl) (by rw [List.getElem?_toArray]; rfl) (by rfl) (by as_aux_lemma => kernel_rfl) (by rfl) ?_; apply Exists.intro; refine ⟨fun w1 hS1 => ?_, ?_⟩; (focus (skip; go_simp; with_reducible rfl))
          rw [show List.erase [13] 13 = [] from rfl]; simp only [Act.put, List.setIfInBounds_toArray, List.set_cons_zero, List.set_cons_succ]
          refine ⟨rfl, fun w1 hS1 hJ1 => ?_⟩
          go_wp2_with fail
          go_meet
          exact ⟨q, k, root, A5, m5, c5, rfl, rfl, hk, hroot, hJ1.1, hJ1.2.1, hJ1.2.2.1, hJ1.2.2.2, hS1.1, hS1.2⟩
        ·
          rintro _ ⟨q, rfl⟩
          rw [show List.erase [7, 8, 9, 10, 11, 12, 13] 11 = [7, 8, 9, 10, 12, 13] from rfl]; simp only [Act.put, List.setIfInBounds_toArray, List.set_cons_zero, List.set_cons_succ]
          refine TxtT.weakJ (J2 := fun w' => BxC 64 #[.int .i64 0, .int .i64 0, .int .i64 0, .slice none 0 0] (some q) W0.heap.size w') (fun w1 h => by obtain ⟨q', hq, h⟩ := h; injection hq with hq; injection hq with hq; injection hq with hq _ _; subst hq; exact h) ?_
          refine TxtT.one 7 (by as_aux_lemma => kernel_rfl) (by rw [List.getElem?_toArray]; rfl) (by rfl) (by rfl) (fun v => ∃ (A : Option Addr) (m c : Nat), v = Value.tuple #[.agg #[.int .i64 (k : Int), .int .i64 (root : Int), .int .i64 (byW n l k root : Int), .slice A m c], .int .i64 0]) (fun v w' => ∃ (A : Option Addr) (m c : Nat), v = Value.tuple #[.agg #[.int .i64 (k : Int), .int .i64 (root : Int), .int .i64 (byW n l k root : Int), .slice A m c], .int .i64 0] ∧ BxC 64 #[.int .i64 0, .int .i64 0, .int .i64 0, .slice none 0 0] (some q) W0.heap.size w' ∧ YsX n l k root A m w' ∧ (∀ b o, A = some ⟨b, o, none⟩ → W0.heap.size ≤ b) ∧ ∀ q2, ((some q) : Option Nat) = some q2 → m ≠ 0 → ∀ b o, A = some ⟨b, o, none⟩ → b ≠ q2) (fun w1 hS1 hJ1 => ?_) ?_
          · refine Eff.call (f := 35) (args := #[.agg #[.int .i64 (n : Int), .slice AL l.length cl], .int .i64 (k : Int), .int .i64 (root : Int)]) (by go_simp) ((gSolveU_any AL cl k root hk HV.out hroot (by omega) w1 (Hrp.out w1 hS1.2) (Tab.grown hT0 hS1.2 htp)).mono ?_)
            rintro e w' ⟨OO, A, c, rfl, h1, h2, h3, h4, h5, -, -, -, hb⟩
            exact ⟨_, rfl, ⟨hS1.1.kept hb, grownBy_trans hS1.2 (grownBy_of_below hb _)⟩, ⟨A, OO.length, c, rfl⟩, A, OO.length, c, rfl, BxC.below hJ1 hb, ⟨OO, rfl, h1, h3, h5, h2⟩, fun b o e => Nat.le_trans hS1.2.size (h4 b o e), fun q e _ b o e2 => by have := h4 b o e2; have := (hJ1 q e).2.lt; omega⟩
          rintro _ ⟨A5, m5, c5, rfl⟩
          rw [show List.erase [7, 8, 9, 10, 12, 13] 7 = [8, 9, 10, 12, 13] from rfl]; simp only [Act.put, List.setIfInBounds_toArray, List.set_cons_zero, List.set_cons_succ]
          refine TxtT.weakJ (J2 := fun w' => BxC 64 #[.int .i64 0, .int .i64 0, .int .i64 0, .slice none 0 0] (some q) W0.heap.size w' ∧ YsX n l k root A5 m5 w' ∧ (∀ b o, A5 = some ⟨b, o, none⟩ → W0.heap.size ≤ b) ∧ ∀ q2, ((some q) : Option Nat) = some q2 → m5 ≠ 0 → ∀ b o, A5 = some ⟨b, o, none⟩ → b ≠ q2) (fun w1 h => by obtain ⟨A, m, c, e, h⟩ := h; injection e with e; injection e with e; injection e with e _; injection e with e; injection e with e; injection e with _ e; injection e with _ e; injection e with _ e; injection e with e _; injection e with e1 e2 _; subst e1; subst e2; exact h) ?_
          refine TxtT.pure 8 (by rfl) (by rw [List.getElem?_toArray]; rfl) (by rfl) (by as_aux_lemma => kernel_rfl) (by rfl) ?_; apply Exists.intro; refine ⟨fun w1 hS1 => ?_, ?_⟩; (focus (skip; go_simp; with_reducible rfl))
          rw [show List.erase [8, 9, 10, 12, 13] 8 = [9, 10, 12, 13] from rfl]; simp only [Act.put, List.setIfInBounds_toArray, List.set_cons_zero, List.set_cons_succ]
          refine TxtT.pure 9 (by rfl) (by rw [List.getElem?_toArray]; rfl) (by rfl) (by as_aux_lemma => kernel_rfl) (by rfl) ?_; apply Exists.intro; refine ⟨fun w1 hS1 => ?_, ?_⟩; (focus (skip; go_simp; with_reducible rfl))
          rw [show List.erase [9, 10, 12, 13] 9 = [10, 12, 13] from rfl]; simp only [Act.put, List.setIfInBounds_toArray, List.set_cons_zero, List.set_cons_succ]
          refine TxtT.pure 10 (by rfl) (by rw [List.getElem?_toArray]; rfl) (by rfl) (by as_aux_lemma => kernel_rfl) (by rfl) ?_; apply Exists.intro; refine ⟨fun w1 hS1 => ?_, ?_⟩; (focus (skip; go_simp; with_reducible rfl))
          rw [show List.erase [10, 12, 13] 10 = [12, 13] from rfl]; simp only [Act.put, List.setIfInBounds_toArray, List.set_cons_zero, List.set_cons_succ]
          refine TxtT.one 12 (by as_aux_lemma => kernel_rfl) (by rw [List.getElem?_toArray]; rfl) (by rfl) (by rfl) (fun v => v = undef) (fun _ w' => W0.heap.size ≤ q ∧ Blk w' q 64 #[.int .i64 (k : Int), .int .i64 (root : Int), .int .i64 (byW n l k root : Int), .slice A5 m5 c5] ∧ YsX n l k root A5 m5 w' ∧ ∀ b o, A5 = some ⟨b, o, none⟩ → W0.heap.size ≤ b) (fun w1 hS1 hJ1 => ?_) ?_
          · obtain ⟨hq, hk4⟩ := hJ1.1 q rfl
            have z0 := hk4.frozen 0; have z1 := hk4.frozen 1; have z2 := hk4.frozen 2; have z3 := hk4.frozen 3
            have hst := (((hk4.set_ 0 (.int .i64 (k : Int))).set_ 1 (.int .i64 (root : Int))).set_ 2 (.int .i64 (byW n l k root : Int))).set_ 3 (.slice A5 m5 c5)
            have y0 : w1.cell? ⟨q, 0, none⟩ = some (.int .i64 0) := hk4.cell 0; have y1 : w1.cell? ⟨q, 1, none⟩ = some (.int .i64 0) := hk4.cell 1; have y2 : w1.cell? ⟨q, 2, none⟩ = some (.int .i64 0) := hk4.cell 2; have y3 : w1.cell? ⟨q, 3, none⟩ = some (.slice none 0 0) := hk4.cell 3
            have hy := (((hJ1.2.1.far (hJ1.2.2.2 q rfl) 0 (.int .i64 (k : Int))).far (hJ1.2.2.2 q rfl) 1 (.int .i64 (root : Int))).far (hJ1.2.2.2 q rfl) 2 (.int .i64 (byW n l k root : Int))).far (hJ1.2.2.2 q rfl) 3 (.slice A5 m5 c5)
            exact Eff.skip (w' := (((w1.setCell ⟨q, 0, none⟩ (.int .i64 (k : Int))).setCell ⟨q, 1, none⟩ (.int .i64 (root : Int))).setCell ⟨q, 2, none⟩ (.int .i64 (byW n l k root : Int))).setCell ⟨q, 3, none⟩ (.slice A5 m5 c5)) (by go_simp) ⟨⟨src_set2 (src_set2 (src_set2 (src_set2 hS1.1 (by omega) _ _) (by omega) _ _) (by omega) _ _) (by omega) _ _, grown_set2 (grown_set2 (grown_set2 (grown_set2 hS1.2 hq _ _) hq _ _) hq _ _) hq _ _⟩, rfl, hq, hst, hy, hJ1.2.2.1⟩
          rintro _ rfl
          rw [show List.erase [12, 13] 12 = [13] from rfl]; simp only [Act.put]
          refine TxtT.pure 13 (by rfl) (by rw [List.getElem?_toArray]; rfl) (by rfl) (by as_aux_lemma => kernel_rfl) (by rfl) ?_; apply Exists.intro; refine ⟨fun w1 hS1 => ?_, ?_⟩; (focus (skip; go_simp; with_reducible rfl))
          rw [show List.erase [13] 13 = [] from rfl]; simp only [Act.put, List.setIfInBounds_toArray, List.set_cons_zero, List.set_cons_succ]
          refine ⟨rfl, fun w1 hS1 hJ1 => ?_⟩
          go_wp2_with fail
          go_meet
          exact ⟨q, k, root, A5, m5, c5, rfl, rfl, hk, hroot, hJ1.1, hJ1.2.1, hJ1.2.2.1, hJ1.2.2.2, hS1.1, hS1.2⟩
      ·
        rintro _ ⟨q, rfl⟩
        rw [show List.erase [6, 7, 8, 9, 10, 11, 12, 13] 11 = [6, 7, 8, 9, 10, 12, 13] from rfl]; simp only [Act.put, List.setIfInBounds_toArray, List.set_cons_zero, List.set_cons_succ]
        refine TxtT.weakJ (J2 := fun w' => BxC 64 #[.int .i64 0, .int .i64 0, .int .i64 0, .slice none 0 0] (some q) W0.heap.size w') (fun w1 h => by obtain ⟨q', hq, h⟩ := h; injection hq with hq; injection hq with hq; injection hq with hq _ _; subst hq; exact h) ?_
        refine TxtT.one 6 (by as_aux_lemma => kernel_rfl) (by rw [List.getElem?_toArray]; rfl) (by rfl) (by rfl) (fun v => ∃ x : Nat, v = Value.int .i64 (x : Int) ∧ x < n) (fun _ w' => BxC 64 #[.int .i64 0, .int .i64 0, .int .i64 0, .slice none 0 0] (some q) W0.heap.size w') (fun w1 hS1 hJ1 => ?_) ?_
        · refine Eff.call (f := 19) (args := #[.pointer (some ⟨p, 0, none⟩), .int .i64 (n : Int)]) (by go_simp) ((n_any p (n : Int) w1 hS1.1 (by omega) (by omega)).mono ?_)
          rintro e w' ⟨v, rfl, hv1, hv2, hs, hg⟩
          obtain ⟨v, rfl⟩ := Int.eq_ofNat_of_zero_le (by omega : (0 : Int) ≤ v)
          exact ⟨_, rfl, ⟨hs, grownBy_trans hS1.2 hg⟩, ⟨v, rfl, by omega⟩, BxC.grown hJ1 hg hpr⟩
        rintro _ ⟨root, rfl, hroot⟩
        rw [show List.erase [6, 7, 8, 9, 10, 12, 13] 6 = [7, 8, 9, 10, 12, 13] from rfl]; simp only [Act.put, List.setIfInBounds_toArray, List.set_cons_zero, List.set_cons_succ]
        refine TxtT.one 7 (by as_aux_lemma => kernel_rfl) (by rw [List.getElem?_toArray]; rfl) (by rfl) (by rfl) (fun v => ∃ (A : Option Addr) (m c : Nat), v = Value.tuple #[.agg #[.int .i64 (k : Int), .int .i64 (root : Int), .int .i64 (byW n l k root : Int), .slice A m c], .int .i64 0]) (fun v w' => ∃ (A : Option Addr) (m c : Nat), v = Value.tuple #[.agg #[.int .i64 (k : Int), .int .i64 (root : Int), .int .i64 (byW n l k root : Int), .slice A m c], .int .i64 0] ∧ BxC 64 #[.int .i64 0, .int .i64 0, .int .i64 0, .slice none 0 0] (some q) W0.heap.size w' ∧ YsX n l k root A m w' ∧ (∀ b o, A = some ⟨b, o, none⟩ → W0.heap.size ≤ b) ∧ ∀ q2, ((some q) : Option Nat) = some q2 → m ≠ 0 → ∀ b o, A = some ⟨b, o, none⟩ → b ≠ q2) (fun w1 hS1 hJ1 => ?_) ?_
        · refine Eff.call (f := 35) (args := #[.agg #[.int .i64 (n : Int), .slice AL l.length cl], .int .i64 (k : Int), .int .i64 (root : Int)]) (by go_simp) ((gSolveU_any AL cl k root hk HV.out hroot (by omega) w1 (Hrp.out w1 hS1.2) (Tab.grown hT0 hS1.2 htp)).mono ?_)
          rintro e w' ⟨OO, A, c, rfl, h1, h2, h3, h4, h5, -, -, -, hb⟩
          exact ⟨_, rfl, ⟨hS1.1.kept hb, grownBy_trans hS1.2 (grownBy_of_below hb _)⟩, ⟨A, OO.length, c, rfl⟩, A, OO.length, c, rfl, BxC.below hJ1 hb, ⟨OO, rfl, h1, h3, h5, h2⟩, fun b o e => Nat.le_trans hS1.2.size (h4 b o e), fun q e _ b o e2 => by have := h4 b o e2; have := (hJ1 q e).2.lt; omega⟩
        rintro _ ⟨A5, m5, c5, rfl⟩
        rw [show List.erase [7, 8, 9, 10, 12, 13] 7 = [8, 9, 10, 12, 13] from rfl]; simp only [Act.put, List.setIfInBounds_toArray, List.set_cons_zero, List.set_cons_succ]
        refine TxtT.weakJ (J2 := fun w' => BxC 64 #[.int .i64 0, .int .i64 0, .int .i64 0, .slice none 0 0] (some q) W0.heap.size w' ∧ YsX n l k root A5 m5 w' ∧ (∀ b o, A5 = some ⟨b, o, none⟩ → W0.heap.size ≤ b) ∧ ∀ q2, ((some q) : Option Nat) = some q2 → m5 ≠ 0 → ∀ b o, A5 = some ⟨b, o, none⟩ → b ≠ q2) (fun w1 h => by obtain ⟨A, m, c, e, h⟩ := h; injection e with e; injection e with e; injection e with e _; injection e with e; injection e with e; injection e with _ e; injection e with _ e; injection e with _ e; injection e with e _; injection e with e1 e2 _; subst e1; subst e2; exact h) ?_
        refine TxtT.pure 8 (by rfl) (by rw [List.getElem?_toArray]; rfl) (by rfl) (by as_aux_lemma => kernel_rfl) (by rfl) ?_; apply Exists.intro; refine ⟨fun w1 hS1 => ?_, ?_⟩; (focus (skip; go_simp; with_reducible rfl))
        rw [show List.erase [8, 9, 10, 12, 13] 8 = [9, 10, 12, 13] from rfl]; simp only [Act.put, List.setIfInBounds_toArray, List.set_cons_zero, List.set_cons_succ]
        refine TxtT.pure 9 (by rfl) (by rw [List.getElem?_toArray]; rfl) (by rfl) (by as_aux_lemma => kernel_rfl) (by rfl) ?_; apply Exists.intro; refine ⟨fun w1 hS1 => ?_, ?_⟩; (focus (skip; go_simp; with_reducible rfl))
        rw [show List.erase [9, 10, 12, 13] 9 = [10, 12, 13] from rfl]; simp only [Act.put, List.setIfInBounds_toArray, List.set_cons_zero, List.set_cons_succ]
        refine TxtT.pure 10 (by rfl) (by rw [List.getElem?_toArray]; rfl) (by rfl) (by as_aux_lemma => kernel_rfl) (by rfl) ?_; apply Exists.intro; refine ⟨fun w1 hS1 => ?_, ?_⟩; (focus (skip; go_simp; with_reducible rfl))
        rw [show List.erase [10, 12, 13] 10 = [12, 13] from rfl]; simp only [Act.put, List.setIfInBounds_toArray, List.set_cons_zero, List.set_cons_succ]
        refine TxtT.one 12 (by as_aux_lemma => kernel_rfl) (by rw [List.getElem?_toArray]; rfl) (by rfl) (by rfl) (fun v => v = undef) (fun _ w' => W0.heap.size ≤ q ∧ Blk w' q 64 #[.int .i64 (k : Int), .int .i64 (root : Int), .int .i64 (byW n l k root : Int), .slice A5 m5 c5] ∧ YsX n l k root A5 m5 w' ∧ ∀ b o, A5 = some ⟨b, o, none⟩ → W0.heap.size ≤ b) (fun w1 hS1 hJ1 => ?_) ?_
        · obtain ⟨hq, hk4⟩ := hJ1.1 q rfl
          have z0 := hk4.frozen 0; have z1 := hk4.frozen 1; have z2 := hk4.frozen 2; have z3 := hk4.frozen 3
          have hst := (((hk4.set_ 0 (.int .i64 (k : Int))).set_ 1 (.int .i64 (root : Int))).set_ 2 (.int .i64 (byW n l k root : Int))).set_ 3 (.slice A5 m5 c5)
          have y0 : w1.cell? ⟨q, 0, none⟩ = some (.int .i64 0) := hk4.cell 0; have y1 : w1.cell? ⟨q, 1, none⟩ = some (.int .i64 0) := hk4.cell 1; have y2 : w1.cell? ⟨q, 2, none⟩ = some (.int .i64 0) := hk4.cell 2; have y3 : w1.cell? ⟨q, 3, none⟩ = some (.slice none 0 0) := hk4.cell 3
          have hy := (((hJ1.2.1.far (hJ1.2.2.2 q rfl) 0 (.int .i64 (k : Int))).far (hJ1.2.2.2 q rfl) 1 (.int .i64 (root : Int))).far (hJ1.2.2.2 q rfl) 2 (.int .i64 (byW n l k root : Int))).far (hJ1.2.2.2 q rfl) 3 (.slice A5 m5 c5)
          exact Eff.skip (w' := (((w1.setCell ⟨q, 0, none⟩ (.int .i64 (k : Int))).setCell ⟨q, 1, none⟩ (.int .i64 (root : Int))).setCell ⟨q, 2, none⟩ (.int .i64 (byW n l k root : Int))).setCell ⟨q, 3, none⟩ (.slice A5 m5 c5)) (by go_simp) ⟨⟨src_set2 (src_set2 (src_set2 (src_set2 hS1.1 (by omega) _ _) (by omega) _ _) (by omega) _ _) (by omega) _ _, grown_set2 (grown_set2 (grown_set2 (grown_set2 hS1.2 hq _ _) hq _ _) hq _ _) hq _ _⟩, rfl, hq, hst, hy, hJ1.2.2.1⟩
        rintro _ rfl
        rw [show List.erase [12, 13] 12 = [13] from rfl]; simp only [Act.put]
        refine TxtT.pure 13 (by rfl) (by rw [List.getElem?_toArray]; rfl) (by rfl) (by as_aux_lemma => kernel_rfl) (by rfl) ?_; apply Exists.intro; refine ⟨fun w1 hS1 => ?_, ?_⟩; (focus (skip; go_simp; with_reducible rfl))
        rw [show List.erase [13] 13 = [] from rfl]; simp only [Act.put, List.setIfInBounds_toArray, List.set_cons_zero, List.set_cons_succ]
        refine ⟨rfl, fun w1 hS1 hJ1 => ?_⟩
        go_wp2_with fail
        go_meet
        exact ⟨q, k, root, A5, m5, c5, rfl, rfl, hk, hroot, hJ1.1, hJ1.2.1, hJ1.2.2.1, hJ1.2.2.2, hS1.1, hS1.2⟩
    ·
      rintro _ ⟨q, rfl⟩
      rw [show List.erase [2, 6, 7, 8, 9, 10, 11, 12, 13] 11 = [2, 6, 7, 8, 9, 10, 12, 13] from rfl]; simp only [Act.put, List.setIfInBounds_toArray, List.set_cons_zero, List.set_cons_succ]
      refine TxtT.weakJ (J2 := fun w' => BxC 64 #[.int .i64 0, .int .i64 0, .int .i64 0, .slice none 0 0] (some q) W0.heap.size w') (fun w1 h => by obtain ⟨q', hq, h⟩ := h; injection hq with hq; injection hq with hq; injection hq with hq _ _; subst hq; exact h) ?_
      refine TxtT.one 2 (by as_aux_lemma => kernel_rfl) (by rw [List.getElem?_toArray]; rfl) (by rfl) (by rfl) (fun v => ∃ x : Nat, v = Value.int .i64 (x : Int) ∧ (x = 1 ∨ x = 2)) (fun _ w' => BxC 64 #[.int .i64 0, .int .i64 0, .int .i64 0, .slice none 0 0] (some q) W0.heap.size w') (fun w1 hS1 hJ1 => ?_) ?_
      · refine Eff.call (f := 16) (args := #[.pointer (some ⟨p, 0, none⟩), .int .i64 1, .int .i64 2]) (by go_simp) ((krange_any p 1 2 w1 hS1.1 (by decide) (by decide) (by decide)).mono ?_)
        rintro e w' ⟨v, rfl, hv1, hv2, hs, hg⟩
        obtain ⟨v, rfl⟩ := Int.eq_ofNat_of_zero_le (by omega : (0 : Int) ≤ v)
        exact ⟨_, rfl, ⟨hs, grownBy_trans hS1.2 hg⟩, ⟨v, rfl, by omega⟩, BxC.grown hJ1 hg hpr⟩
      rintro _ ⟨k, rfl, hk⟩
      rw [show List.erase [2, 6, 7, 8, 9, 10, 12, 13] 2 = [6, 7, 8, 9, 10, 12, 13] from rfl]; simp only [Act.put, List.setIfInBounds_toArray, List.set_cons_zero, List.set_cons_succ]
      refine TxtT.one 6 (by as_aux_lemma => kernel_rfl) (by rw [List.getElem?_toArray]; rfl) (by rfl) (by rfl) (fun v => ∃ x : Nat, v = Value.int .i64 (x : Int) ∧ x < n) (fun _ w' => BxC 64 #[.int .i64 0, .int .i64 0, .int .i64 0, .slice none 0 0] (some q) W0.heap.size w') (fun w1 hS1 hJ1 => ?_) ?_
      · refine Eff.call (f := 19) (args := #[.pointer (some ⟨p, 0, none⟩), .int .i64 (n : Int)]) (by go_simp) ((n_any p (n : Int) w1 hS1.1 (by omega) (by omega)).mono ?_)
        rintro e w' ⟨v, rfl, hv1, hv2, hs, hg⟩
        obtain ⟨v, rfl⟩ := Int.eq_ofNat_of_zero_le (by omega : (0 : Int) ≤ v)
        exact ⟨_, rfl, ⟨hs, grownBy_trans hS1.2 hg⟩, ⟨v, rfl, by omega⟩, BxC.grown hJ1 hg hpr⟩
      rintro _ ⟨root, rfl, hroot⟩
      rw [show List.erase [6, 7, 8, 9, 10, 12, 13] 6 = [7, 8, 9, 10, 12, 13] from rfl]; simp only [Act.put, List.setIfInBounds_toArray, List.set_cons_zero, List.set_cons_succ]
      refine TxtT.one 7 (by as_aux_lemma => kernel_rfl) (by rw [List.getElem?_toArray]; rfl) (by rfl) (by rfl) (fun v => ∃ (A : Option Addr) (m c : Nat), v = Value.tuple #[.agg #[.int .i64 (k : Int), .int .i64 (root : Int), .int .i64 (byW n l k root : Int), .slice A m c], .int .i64 0]) (fun v w' => ∃ (A : Option Addr) (m c : Nat), v = Value.tuple #[.agg #[.int .i64 (k : Int), .int .i64 (root : Int), .int .i64 (byW n l k root : Int), .slice A m c], .int .i64 0] ∧ BxC 64 #[.int .i64 0, .int .i64 0, .int .i64 0, .slice none 0 0] (some q) W0.heap.size w' ∧ YsX n l k root A m w' ∧ (∀ b o, A = some ⟨b, o, none⟩ → W0.heap.size ≤ b) ∧ ∀ q2, ((some q) : Option Nat) = some q2 → m ≠ 0 → ∀ b o, A = some ⟨b, o, none⟩ → b ≠ q2) (fun w1 hS1 hJ1 => ?_) ?_
      · refine Eff.call (f := 35) (args := #[.agg #[.int .i64 (n : Int), .slice AL l.length cl], .int .i64 (k : Int), .int .i64 (root : Int)]) (by go_simp) ((gSolveU_any AL cl k root hk HV.out hroot (by omega) w1 (Hrp.out w1 hS1.2) (Tab.grown hT0 hS1.2 htp)).mono ?_)
        rintro e w' ⟨OO, A, c, rfl, h1, h2, h3, h4, h5, -, -, -, hb⟩
        exact ⟨_, rfl, ⟨hS1.1.kept hb, grownBy_trans hS1.2 (grownBy_of_below hb _)⟩, ⟨A, OO.length, c, rfl⟩, A, OO.length, c, rfl, BxC.below hJ1 hb, ⟨OO, rfl, h1, h3, h5, h2⟩, fun b o e => Nat.le_trans hS1.2.size (h4 b o e), fun q e _ b o e2 => by have := h4 b o e2; have := (hJ1 q e).2.lt; omega⟩
      rintro _ ⟨A5, m5, c5, rfl⟩
      rw [show List.erase [7, 8, 9, 10, 12, 13] 7 = [8, 9, 10, 12, 13] from rfl]; simp only [Act.put, List.setIfInBounds_toArray, List.set_cons_zero, List.set_cons_succ]
      refine TxtT.weakJ (J2 := fun w' => BxC 64 #[.int .i64 0, .int .i64 0, .int .i64 0, .slice none 0 0] (some q) W0.heap.size w' ∧ YsX n l k root A5 m5 w' ∧ (∀ b o, A5 = some ⟨b, o, none⟩ → W0.heap.size ≤ b) ∧ ∀ q2, ((some q) : Option Nat) = some q2 → m5 ≠ 0 → ∀ b o, A5 = some ⟨b, o, none⟩ → b ≠ q2) (fun w1 h => by obtain ⟨A, m, c, e, h⟩ := h; injection e with e; injection e with e; injection e with e _; injection e with e; injection e with e; injection e with _ e; injection e with _ e; injection e with _ e; injection e with e _; injection e with e1 e2 _; subst e1; subst e2; exact h) ?_
      refine TxtT.pure 8 (by rfl) (by rw [List.getElem?_toArray]; rfl) (by rfl) (by as_aux_lemma => kernel_rfl) (by rfl) ?_; apply Exists.intro; refine ⟨fun w1 hS1 => ?_, ?_⟩; (focus (skip; go_simp; with_reducible rfl))
      rw [show List.erase [8, 9, 10, 12, 13] 8 = [9, 10, 12, 13] from rfl]; simp only [Act.put, List.setIfInBounds_toArray, List.set_cons_zero, List.set_cons_succ]
      refine TxtT.pure 9 (by rfl) (by rw [List.getElem?_toArray]; rfl) (by rfl) (by as_aux_lemma => kernel_rfl) (by rfl) ?_; apply Exists.intro; refine ⟨fun w1 hS1 => ?_, ?_⟩; (focus (skip; go_simp; with_reducible rfl))
      rw [show List.erase [9, 10, 12, 13] 9 = [10, 12, 13] from rfl]; simp only [Act.put, List.setIfInBounds_toArray, List.set_cons_zero, List.set_cons_succ]
      refine TxtT.pure 10 (by rfl) (by rw [List.getElem?_toArray]; rfl) (by rfl) (by as_aux_lemma => kernel_rfl) (by rfl) ?_; apply Exists.intro; refine ⟨fun w1 hS1 => ?_, ?_⟩; (focus (skip; go_simp; with_reducible rfl))
      rw [show List.erase [10, 12, 13] 10 = [12, 13] from rfl]; simp only [Act.put, List.setIfInBounds_toArray, List.set_cons_zero, List.set_cons_succ]
      refine TxtT.one 12 (by as_aux_lemma => kernel_rfl) (by rw [List.getElem?_toArray]; rfl) (by rfl) (by rfl) (fun v => v = undef) (fun _ w' => W0.heap.size ≤ q ∧ Blk w' q 64 #[.int .i64 (k : Int), .int .i64 (root : Int), .int .i64 (byW n l k root : Int), .slice A5 m5 c5] ∧ YsX n l k root A5 m5 w' ∧ ∀ b o, A5 = some ⟨b, o, none⟩ → W0.heap.size ≤ b) (fun w1 hS1 hJ1 => ?_) ?_
      · obtain ⟨hq, hk4⟩ := hJ1.1 q rfl
        have z0 := hk4.frozen 0; have z1 := hk4.frozen 1; have z2 := hk4.frozen 2; have z3 := hk4.frozen 3
        have hst := (((hk4.set_ 0 (.int .i64 (k : Int))).set_ 1 (.int .i64 (root : Int))).set_ 2 (.int .i64 (byW n l k root : Int))).set_ 3 (.slice A5 m5 c5)
        have y0 : w1.cell? ⟨q, 0, none⟩ = some (.int .i64 0) := hk4.cell 0; have y1 : w1.cell? ⟨q, 1, none⟩ = some (.int .i64 0) := hk4.cell 1; have y2 : w1.cell? ⟨q, 2, none⟩ = some (.int .i64 0) := hk4.cell 2; have y3 : w1.cell? ⟨q, 3, none⟩ = some (.slice none 0 0) := hk4.cell 3
        have hy := (((hJ1.2.1.far (hJ1.2.2.2 q rfl) 0 (.int .i64 (k : Int))).far (hJ1.2.2.2 q rfl) 1 (.int .i64 (root : Int))).far (hJ1.2.2.2 q rfl) 2 (.int .i64 (byW n l k root : Int))).far (hJ1.2.2.2 q rfl) 3 (.slice A5 m5 c5)
        exact Eff.skip (w' := (((w1.setCell ⟨q, 0, none⟩ (.int .i64 (k : Int))).setCell ⟨q, 1, none⟩ (.int .i64 (root : Int))).setCell ⟨q, 2, none⟩ (.int .i64 (byW n l k root : Int))).setCell ⟨q, 3, none⟩ (.slice A5 m5 c5)) (by go_simp) ⟨⟨src_set2 (src_set2 (src_set2 (src_set2 hS1.1 (by omega) _ _) (by omega) _ _) (by omega) _ _) (by omega) _ _, grown_set2 (grown_set2 (grown_set2 (grown_set2 hS1.2 hq _ _) hq _ _) hq _ _) hq _ _⟩, rfl, hq, hst, hy, hJ1.2.2.1⟩
      rintro _ rfl
      rw [show List.erase [12, 13] 12 = [13] from rfl]; simp only [Act.put]
      refine TxtT.pure 13 (by rfl) (by rw [List.getElem?_toArray]; rfl) (by rfl) (by as_aux_lemma => kernel_rfl) (by rfl) ?_; apply Exists.intro; refine ⟨fun w1 hS1 => ?_, ?_⟩; (focus (skip; go_simp; with_reducible rfl))
      rw [show List.erase [13] 13 = [] from rfl]; simp only [Act.put, List.setIfInBounds_toArray, List.set_cons_zero, List.set_cons_succ]
      refine ⟨rfl, fun w1 hS1 hJ1 => ?_⟩
      go_wp2_with fail
      go_meet
      exact ⟨q, k, root, A5, m5, c5, rfl, rfl, hk, hroot, hJ1.1, hJ1.2.1, hJ1.2.2.1, hJ1.2.2.2, hS1.1, hS1.2⟩
  obtain ⟨q, k1, root1, A5, m5, c5, rfl, rfl, hk1, hroot1, hq, kq, hy, hl5, hs3, hg3⟩ := hcut
  have hB3 : Below w.heap.size w wc := hB0.trans (below_of_grownBy hg3 hp hB0.size)
  have hT3 : Tab wc := Tab.grown hT0 hg3 htp
  have hG0 := lt_of_cell c0
  have c0 := hg3.cell c0 (by simp; omega); have c1 := hg3.cell c1 (by simp; omega)
  have hby1 := byW_two (n := n) (l := l) (k := k1) (root := root1)
  obtain ⟨b1, hb1e⟩ : ∃ b1, byW n l k1 root1 = b1 := ⟨_, rfl⟩
  rw [hb1e] at kq hby1
  have hl5p : m5 ≠ 0 → ∀ b o, A5 = some ⟨b, o, none⟩ → b ≠ p := fun _ b o e => by have := hl5 b o e; omega
  have hqs := kq.lt
  clear hb1e hT0
  by_cases h300 : 300 < picks.length
  case pos =>
    have hd : decide (300 < (picks.length : Int)) = true := by rw [decide_eq_true_iff]; omega
    have HB3 := Lib.hid hB3
    clear hB3 hB0 kq hy hg3
    go_wp2_with fail
    refine (awake25_any wc hT3).mono ?_
    rintro e w5 ⟨rfl, hb5⟩
    go_wp2_with fail
    go_ret
    exact ⟨rfl, endB HB3.out hb5⟩
  have hd : decide (300 < (picks.length : Int)) = false := by rw [decide_eq_false_iff_not]; omega
  have H300 : RowKit.Hid (picks.length ≤ 300) := Lib.hid (by omega)
  have x0 : wc.cell? ⟨q, 0, none⟩ = some (.int .i64 (k1 : Int)) := kq.cell 0
  have x1 : wc.cell? ⟨q, 1, none⟩ = some (.int .i64 (root1 : Int)) := kq.cell 1
  have x2 : wc.cell? ⟨q, 2, none⟩ = some (.int .i64 (b1 : Int)) := kq.cell 2
  have x3 : wc.cell? ⟨q, 3, none⟩ = some (.slice A5 m5 c5) := kq.cell 3
  have HB3 := Lib.hid hB3; have Hy := Lib.hid hy; have Hg3 := Lib.hid hg3; have Hl5p := Lib.hid hl5p
  clear hB3 hB0 kq hy hg3 hl5 hl5p h300
  go_upto_region 6 with fail
  clear hd
  go_cut [46, 47, 48] (fun t46 t47 t48 wx => ∃ (g8 k2 root2 b2 : Nat) (A6 : Option Addr) (m6 c6 : Nat), t46 = .slice (some ⟨g8, 0, none⟩) 2 2 ∧ t47 = .int .i64 2 ∧ t48 = .int .i64 0 ∧ Blk wx g8 64 #[.int .i64 (k1 : Int), .int .i64 (root1 : Int), .int .i64 (b1 : Int), .slice A5 m5 c5, .int .i64 (k2 : Int), .int .i64 (root2 : Int), .int .i64 (b2 : Int), .slice A6 m6 c6] ∧ (k2 = 1 ∨ k2 = 2) ∧ root2 < n ∧ (b2 = 1 ∨ b2 = 2) ∧ YsX n l k1 root1 A5 m5 wx ∧ YsX n l k2 root2 A6 m6 wx ∧ wc.grownBy wx (some p))
  case first =>
    refine wp_region_textB [3, 4] (fun w' => SrcOk w' p ∧ wc.grownBy w' (some p)) (fun _ => True) (by kernel_rfl) (by kernel_rfl) (by kernel_rfl) ⟨hs3.kept (Below.refl _ _).drew, grownBy_of_below (Below.refl _ _).drew _⟩ trivial ?_
    repeat (first
      | (refine TxtBL.skip (by rfl) ?_; simp only [Act.put, List.setIfInBounds_toArray, List.set_cons_zero, List.set_cons_succ])
      | (refine TxtBL.take (by rfl) (by rfl) ?_; apply Exists.intro; refine ⟨fun w1 hS1 => ?_, ?_⟩; (focus ((have g0 := hS1.2.cell c0 (by simp; omega); have g1 := hS1.2.cell c1 (by simp; omega); have g2 := hS1.2.cell x0 (by simp; omega); have g3 := hS1.2.cell x1 (by simp; omega); have g4 := hS1.2.cell x2 (by simp; omega); have g5 := hS1.2.cell x3 (by simp; omega)); go_simp; with_reducible rfl)); simp only [Act.put, List.setIfInBounds_toArray, List.set_cons_zero, List.set_cons_succ])
      | (refine TxtBL.takeE (by rfl) (by rfl) ?_; apply Exists.intro; refine ⟨fun w1 hS1 => ?_, ?_⟩; (focus ((have g0 := hS1.2.cell c0 (by simp; omega); have g1 := hS1.2.cell c1 (by simp; omega); have g2 := hS1.2.cell x0 (by simp; omega); have g3 := hS1.2.cell x1 (by simp; omega); have g4 := hS1.2.cell x2 (by simp; omega); have g5 := hS1.2.cell x3 (by simp; omega)); go_simp; with_reducible rfl)); simp only [Act.put, List.setIfInBounds_toArray, List.set_cons_zero, List.set_cons_succ]))
    refine TxtBL.call (f := 42) (args := #[.pointer (some ⟨p, 0, none⟩), .agg #[.int .i64 (n : Int), .slice AL l.length cl]]) (fun u => ∃ (k2 root2 b2 : Nat) (A6 : Option Addr) (m6 c6 : Nat), u = Value.agg #[.int .i64 (k2 : Int), .int .i64 (root2 : Int), .int .i64 (b2 : Int), .slice A6 m6 c6]) (fun u w' => ∃ (k2 root2 b2 : Nat) (A6 : Option Addr) (m6 c6 : Nat), u = Value.agg #[.int .i64 (k2 : Int), .int .i64 (root2 : Int), .int .i64 (b2 : Int), .slice A6 m6 c6] ∧ (k2 = 1 ∨ k2 = 2) ∧ root2 < n ∧ (b2 = 1 ∨ b2 = 2) ∧ YsX n l k2 root2 A6 m6 w') (by rfl) (by rfl) ⟨_, 0, 0, 0, none, 0, 0, rfl⟩ (fun w1 hS1 hJ1 => by go_simp) (fun w1 hS1 hJ1 => ?_) ?_
    · refine (strategy_any AL cl p HV.out (by omega) (by omega) w1 hS1.1 (Hrp.out w1 (grownBy_trans Hg3.out hS1.2)) Hal.out).mono ?_
      rintro e w' ⟨k2, root2, b2, OO, A6, c6, rfl, h1, h2, h3, h4, h5, h6, h7, h8, h9⟩
      exact ⟨_, rfl, ⟨h8, grownBy_trans hS1.2 h9⟩, ⟨k2, root2, b2, A6, OO.length, c6, rfl⟩, k2, root2, b2, A6, OO.length, c6, rfl, h1, h2, h3, OO, rfl, h6, h5, h4, h7⟩
    rintro _ ⟨k2, root2, b2, A6, m6, c6, rfl⟩
    simp only [Act.put, List.setIfInBounds_toArray, List.set_cons_zero, List.set_cons_succ]
    refine TxtBL.value (fun u => ∃ g, u = Value.slice (some ⟨g, 0, none⟩) 2 2) (fun u w' => ∃ g, u = Value.slice (some ⟨g, 0, none⟩) 2 2 ∧ Blk w' g 64 #[.int .i64 (k1 : Int), .int .i64 (root1 : Int), .int .i64 (b1 : Int), .slice A5 m5 c5, .int .i64 (k2 : Int), .int .i64 (root2 : Int), .int .i64 (b2 : Int), .slice A6 m6 c6] ∧ (k2 = 1 ∨ k2 = 2) ∧ root2 < n ∧ (b2 = 1 ∨ b2 = 2) ∧ YsX n l k2 root2 A6 m6 w') (by rfl) (by rfl) ⟨_, 0, rfl⟩ (fun w1 hS1 hJ1 => ?_) ?_
    · obtain ⟨k', root', b', A', m', c', e, h1, h2, h3, h4⟩ := hJ1
      injection e with e; injection e with e
      injection e with e1 e; injection e with e2 e; injection e with e3 e; injection e with e4 _
      injection e1 with _ e1; injection e2 with _ e2; injection e3 with _ e3; injection e4 with e4 e5 e6
      have e1 := Int.ofNat.inj e1; have e2 := Int.ofNat.inj e2; have e3 := Int.ofNat.inj e3
      subst e1; subst e2; subst e3; subst e4; subst e5; subst e6
      exact ⟨_, w1.alloc (.cells #[.int .i64 (k1 : Int), .int .i64 (root1 : Int), .int .i64 (b1 : Int), .slice A5 m5 c5, .int .i64 (k2 : Int), .int .i64 (root2 : Int), .int .i64 (b2 : Int), .slice A6 m6 c6] 64), by go_simp, ⟨hS1.1.kept (newB _ _), grownBy_trans hS1.2 (grownBy_of_below (newB _ _) _)⟩, ⟨_, rfl⟩, _, rfl, Blk.new _ _ _, h1, h2, h3, h4.below (newB _ _)⟩
    rintro _ ⟨g8, rfl⟩
    simp only [Act.put, List.setIfInBounds_toArray, List.set_cons_zero, List.set_cons_succ]
    repeat (first
      | (refine TxtBL.skip (by rfl) ?_; simp only [Act.put, List.setIfInBounds_toArray, List.set_cons_zero, List.set_cons_succ])
      | (refine TxtBL.take (by rfl) (by rfl) ?_; apply Exists.intro; refine ⟨fun w1 hS1 => ?_, ?_⟩; (focus (skip; go_simp; with_reducible rfl)); simp only [Act.put, List.setIfInBounds_toArray, List.set_cons_zero, List.set_cons_succ])
      | (refine TxtBL.takeE (by rfl) (by rfl) ?_; apply Exists.intro; refine ⟨fun w1 hS1 => ?_, ?_⟩; (focus (skip; go_simp; with_reducible rfl)); simp only [Act.put, List.setIfInBounds_toArray, List.set_cons_zero, List.set_cons_succ]))
    refine TxtBL.nil (fun w1 hS1 hJ1 => ?_)
    obtain ⟨g8', e, kb, h1, h2, h3, h4⟩ := hJ1
    injection e with e; injection e with e; injection e with e _ _; subst e
    have Hkb := Lib.hid kb; have H4 := Lib.hid h4; have HS1 := Lib.hid hS1
    clear kb h4 hS1
    go_wp2_with fail
    go_meet
    exact ⟨g8, k2, root2, b2, A6, m6, c6, rfl, rfl, rfl, Hkb.out, h1, h2, h3, Hy.out.grown HS1.out.2 Hl5p.out, H4.out, HS1.out.2⟩
  obtain ⟨g8, k2, root2, b2, A6, m6, c6, rfl, rfl, rfl, kb, hk2, hroot2, hb2, hy1, hy2, hg6⟩ := hcut
  obtain ⟨WX, hWX⟩ : ∃ WX, WX = wc := ⟨_, rfl⟩
  subst hWX
  have hl8 := kb.lt
  have hB6 : Below w.heap.size w WX := HB3.out.trans (below_of_grownBy hg6 hp HB3.out.size)
  have hg06 := grownBy_trans Hg3.out hg6
  have hT6 : Tab WX := Tab.grown hT3 hg6 htp
  have z0 := hg6.cell c0 (by simp; omega); have z1 := hg6.cell c1 (by simp; omega)
  have hrg6 := Hrp.out WX hg06
  have hri6 := Hri.out WX hg06
  obtain ⟨O5, e5, hO51, hO52, hO53, hO54⟩ := hy1
  obtain ⟨O6, e6, hO61, hO62, hO63, hO64⟩ := hy2
  subst e5; subst e6
  have hYs : ∀ j, j < 2 → ∃ (k root b : Nat) (A : Option Addr) (OO : List (Nat × Nat)) (c : Nat), YsJ n g8 j k root b A OO c WX := fun j hj => by
    match j, hj with
    | 0, _ => exact ⟨k1, root1, b1, A5, O5, c5, ⟨kb.cell 0, kb.cell 1, kb.cell 2, kb.cell 3⟩, hk1, hroot1, hby1, hO51, hO52, hO53, hO54⟩
    | 1, _ => exact ⟨k2, root2, b2, A6, O6, c6, ⟨kb.cell 4, kb.cell 5, kb.cell 6, kb.cell 7⟩, hk2, hroot2, hb2, hO61, hO62, hO63, hO64⟩
  have HYs := Lib.hid hYs; have HB6 := Lib.hid hB6; have Hrg := Lib.hid hrg6; have Hri6 := Lib.hid hri6; have HT6 := Lib.hid hT6
  clear hYs hO51 hO52 hO53 hO54 hO61 hO62 hO63 hO64 kb hB6 hg06 hT6 hT3 hg6 hrg6 hri6 x0 x1 x2 x3 c0 c1 hs3 Hy Hg3 HB3 Hrp Hri Hl5p
  go_wp2_with fail
  go_loopw [48] (fun t48 wx => ∃ j : Nat, j ≤ 2 ∧ t48 = .int .i64 (j : Int) ∧ Below WX.heap.size WX wx) (fun t48 _ => 2 - (intOf t48).toNat)
  case atStart => exact ⟨0, Nat.zero_le _, rfl, Below.refl _ _⟩
  case round =>
    obtain ⟨j, hj, rfl, hbr⟩ := hrel
    by_cases hj2 : j < 2
    case neg =>
      go_wp2_with fail
      refine (awake25_any wr (HT6.out.below hbr)).mono ?_
      rintro e w9 ⟨rfl, hb9⟩
      go_wp2_with fail
      go_ret
      exact ⟨rfl, endB HB6.out (hbr.trans (hb9.mono hbr.size))⟩
    case pos =>
    obtain ⟨k, root, b, A, OO, c, ⟨q0, q1, q2, q3⟩, hk, hroot, hb, hO1, hO2, hO3, hO4⟩ := HYs.out j hj2
    have q0 := (hbr.cell (lt_of_cell q0)).trans q0; have q1 := (hbr.cell (lt_of_cell q1)).trans q1; have q2 := (hbr.cell (lt_of_cell q2)).trans q2; have q3 := (hbr.cell (lt_of_cell q3)).trans q3
    have hj0 : (0 : Int) ≤ (j : Int) := by omega
    have hj1 : (j : Int) < 2 := by omega
    have Hk := Lib.hid hk; have Hb := Lib.hid hb; have HO2 := Lib.hid hO2; have HO3 := Lib.hid hO3; have HO4 := Lib.hid hO4; have Hbr := Lib.hid hbr
    have hszr := hbr.size
    have y0 := (hbr.cell (lt_of_cell z0)).trans z0; have y1 := (hbr.cell (lt_of_cell z1)).trans z1
    clear hk hb hO2 hO3 hO4 hbr
    go_upto_region 9 with fail
    obtain ⟨W8, hW8, k8, hb8, hs8⟩ := boxA wr 64 #[.int .i64 (k : Int), .int .i64 (root : Int), .int .i64 (b : Int), .slice A OO.length c]
    rw [hW8]
    have s0 : W8.cell? ⟨wr.heap.size, 0, none⟩ = some (.int .i64 (k : Int)) := k8.cell 0
    have s1 : W8.cell? ⟨wr.heap.size, 1, none⟩ = some (.int .i64 (root : Int)) := k8.cell 1
    have s2 : W8.cell? ⟨wr.heap.size, 2, none⟩ = some (.int .i64 (b : Int)) := k8.cell 2
    have s3 : W8.cell? ⟨wr.heap.size, 3, none⟩ = some (.slice A OO.length c) := k8.cell 3
    have y0 := (hb8.cell (lt_of_cell y0)).trans y0; have y1 := (hb8.cell (lt_of_cell y1)).trans y1
    have hbr8 := Hbr.out.trans (hb8.mono hszr)
    have hrg8 := Hrg.out.below hbr8; have hri8 := Hri6.out.below hbr8; have hT8 := HT6.out.below hbr8; have hO8 := HO4.out.below hbr8
    have hchk := gCheckU_any AL cl HV.out (by omega) (by omega) k root b Hk.out Hb.out hroot A OO c HO3.out HO2.out (by omega) W8 hrg8 hO8 hT8
    have hsz8 := hbr8.size
    have Hbr8 := Lib.hid hbr8; have Hrg8 := Lib.hid hrg8; have Hri8 := Lib.hid hri8; have HT8 := Lib.hid hT8; have HO8 := Lib.hid hO8; have Hchk := Lib.hid hchk
    clear hW8 k8 hb8 hs8 q0 q1 q2 q3 hbr8 hrg8 hri8 hT8 hO8 hchk
    generalize wr.heap.size = gY at *
    go_cut [65] (fun t65 wx => ∃ bb : Bool, t65 = .bool (!bb) ∧ (bb = true → (b = 1 ∨ b = 2 ∧ k = 1) ∧ WPost n l k b root OO true) ∧ Below W8.heap.size W8 wx)
    case first =>
      have Hpost : RowKit.Hid (∀ bb, WPost n l k b root OO bb → ¬ (k = 2 ∧ b = 2) → bb = true → (b = 1 ∨ b = 2 ∧ k = 1) ∧ WPost n l k b root OO true) := Lib.hid fun bb h hn e => ⟨by have := Hk.out; have := Hb.out; omega, by rw [← e]; exact h⟩
      rcases Hk.out with rfl | rfl
      · rcases Hb.out with rfl | rfl
        all_goals
          go_wp2_with fail
          refine Hchk.out.mono ?_
          rintro e w9 ⟨bb, rfl, hp9, hb9⟩
          have Hp9 := Lib.hid (Hpost.out bb hp9 (by omega))
          clear hp9
          cases bb
          · go_wp2_with fail
            go_meet
            exact ⟨false, rfl, (fun e => by cases e), hb9⟩
          · go_wp2_with fail
            go_meet
            exact ⟨true, rfl, fun _ => ⟨by simp, (Hp9.out trivial).2⟩, hb9⟩
      · rcases Hb.out with rfl | rfl
        · go_wp2_with fail
          refine Hchk.out.mono ?_
          rintro e w9 ⟨bb, rfl, hp9, hb9⟩
          have Hp9 := Lib.hid (Hpost.out bb hp9 (by omega))
          clear hp9
          cases bb
          · go_wp2_with fail
            go_meet
            exact ⟨false, rfl, (fun e => by cases e), hb9⟩
          · go_wp2_with fail
            go_meet
            exact ⟨true, rfl, fun _ => ⟨by simp, (Hp9.out trivial).2⟩, hb9⟩
        · go_wp2_with fail
          go_meet
          exact ⟨false, rfl, (fun e => by cases e), Below.refl _ _⟩
    obtain ⟨bb, rfl, hpost, hb9⟩ := hcut
    have s0 := (hb9.cell (lt_of_cell s0)).trans s0; have s1 := (hb9.cell (lt_of_cell s1)).trans s1; have s2 := (hb9.cell (lt_of_cell s2)).trans s2; have s3 := (hb9.cell (lt_of_cell s3)).trans s3
    have y0 := (hb9.cell (lt_of_cell y0)).trans y0; have y1 := (hb9.cell (lt_of_cell y1)).trans y1
    have hbr9 := Hbr8.out.trans (hb9.mono hsz8)
    have Hbr9 := Lib.hid hbr9; have Hrg9 := Lib.hid (Hrg8.out.below hb9); have Hri9 := Lib.hid (Hri8.out.below hb9); have HT9 := Lib.hid (HT8.out.below hb9); have HO9 := Lib.hid (HO8.out.below hb9)
    have hsz9 := hbr9.size
    clear hb9 hbr9 Hchk Hrg8 Hri8 HT8 HO8 Hbr8
    cases bb
    case false =>
      clear hpost
      go_wp2_with fail
      go_roundw
      case rel => exact ⟨j + 1, by omega, by go_num, Hbr9.out⟩
      case measure => simp [intOf]; omega
    case true =>
    obtain ⟨hby, hp9⟩ := hpost rfl
    obtain ⟨hok, G9, hG⟩ := playG_of hroot Hk.out hby hp9
    have Hpl := Lib.hid (gPlay_any AL cl HV.out (by omega) k root b Hk.out Hb.out hroot A OO c HO3.out HO2.out (by omega) G9 hG hok AP picks cp H300.out Hpx.out wc Hrg9.out HO9.out Hri9.out HT9.out)
    have HG := Lib.hid hG
    clear hpost hby hp9 hok hG
    go_wp2_with fail
    refine Hpl.out.mono ?_
    rintro e w10 ⟨line, Al, c9, rfl, hg, he, hri10, hcap, hb10⟩
    obtain ⟨hne, hx, hpl, hhd⟩ := HG.out.ne line hg
    have hlen := HG.out.short Hk.out hg
    have hwn := HG.out.end_ Hb.out hg he
    have hself : k = 2 → attQ l (line.headD 0) (line.headD 0) = false := fun e => by rw [hhd]; exact HG.out.self e
    have hwi := gWinner_any AL cl HV.out k Hk.out Al line c9 w10 hne hx (by omega) hcap hpl hself (Hrg9.out.below hb10) hri10 (HT9.out.below hb10)
    rw [hwn] at hwi
    have Hwi := Lib.hid hwi
    have s0 := (hb10.cell (lt_of_cell s0)).trans s0; have s2 := (hb10.cell (lt_of_cell s2)).trans s2
    have y0 := (hb10.cell (lt_of_cell y0)).trans y0; have y1 := (hb10.cell (lt_of_cell y1)).trans y1
    have hbr10 := Hbr9.out.trans (hb10.mono hsz9)
    have hsz10 := hbr10.size
    have Hbr10 := Lib.hid hbr10
    clear hb10 hbr10 hg he hri10 hcap hne hx hpl hhd hwn hself hwi Hpl s1 s3 HG
    go_wp2_with fail
    refine Hwi.out.mono ?_
    rintro e w11 ⟨rfl, hb11⟩
    have s2 := (hb11.cell (lt_of_cell s2)).trans s2
    have y0 := (hb11.cell (lt_of_cell y0)).trans y0
    have Hbr11 := Lib.hid (Hbr10.out.trans (hb11.mono hsz10))
    have hbb : ((b : Int) != (b : Int)) = false := by simp
    have hw1 : IntKind.i64.wrap (2 * (n : Int)) = 2 * (n : Int) := by rw [IntKind.wrap_i64]; omega
    have hw2 : IntKind.i64.wrap (2 * (n : Int) + 2) = 2 * (n : Int) + 2 := by rw [IntKind.wrap_i64]; omega
    have hdl : decide (2 * (n : Int) + 2 < (line.length : Int)) = false := by rw [decide_eq_false_iff_not]; omega
    clear hb11 s0 y1 Hwi
    go_wp2_with fail
    go_roundw
    case rel => exact ⟨j + 1, by omega, by go_num, Hbr11.out⟩
    case measure => simp [intOf]; omega
end Go.Proofs.YtncimnfhfomddaaDoor
