/- Package protocol: Apply. (The regions of several orders are printed by gen_apl.py.) -/
import Derived.Test.YthkknlnfdckdfaaPt5
namespace Go.Proofs.Ythkknlnfdckdfaa
open Go.ChangeShapes Go.WideShapes Go.ChangeAt Go.RowKit

/-- the box that was laid, if it was -/
def BxM (o : Option Nat) (m : Nat) (w : World) : Prop := ∀ q, o = some q → m ≤ q ∧ Blk w q 46 #[.int .i64 0, .int .i64 0, .int .i64 0, .int .i64 0]
theorem BxM.no {m : Nat} {w : World} : BxM Option.none m w := fun q e => by cases e
theorem BxM.new {m : Nat} {w : World} (h : m ≤ w.heap.size) : BxM (some w.heap.size) m (w.alloc (.cells #[.int .i64 0, .int .i64 0, .int .i64 0, .int .i64 0] 46)) := fun q e => by
  injection e with e; subst e; exact ⟨h, Blk.new _ _ _⟩
theorem BxM.below {o : Option Nat} {m : Nat} {w w' : World} (h : BxM o m w) (hb : Below w.heap.size w w') : BxM o m w' := fun q e => ⟨(h q e).1, (h q e).2.below hb (h q e).2.lt⟩
theorem set6 {w : World} {g : Nat} {t : TypeId} {y0 y1 y2 y3 y4 y5 : Value} (h : Blk w g t #[y0, y1, y2, y3, y4, y5]) (x0 x1 x2 x3 x4 x5 : Value) : Blk ((((((w.setCell ⟨g, 0, none⟩ x0).setCell ⟨g, 1, none⟩ x1).setCell ⟨g, 2, none⟩ x2).setCell ⟨g, 3, none⟩ x3).setCell ⟨g, 4, none⟩ x4).setCell ⟨g, 5, none⟩ x5) g t #[x0, x1, x2, x3, x4, x5] := by
  have h0 : Blk (w.setCell ⟨g, 0, none⟩ x0) g t #[x0, y1, y2, y3, y4, y5] := h.set_ 0 x0
  have h1 : Blk ((w.setCell ⟨g, 0, none⟩ x0).setCell ⟨g, 1, none⟩ x1) g t #[x0, x1, y2, y3, y4, y5] := h0.set_ 1 x1
  have h2 : Blk (((w.setCell ⟨g, 0, none⟩ x0).setCell ⟨g, 1, none⟩ x1).setCell ⟨g, 2, none⟩ x2) g t #[x0, x1, x2, y3, y4, y5] := h1.set_ 2 x2
  have h3 := h2.set_ 3 x3
  have h4 := h3.set_ 4 x4
  exact h4.set_ 5 x5
theorem below_set6 {B : Nat} {w w' : World} {g : Nat} (h : Below B w w') (hg : B ≤ g) (x0 x1 x2 x3 x4 x5 : Value) : Below B w ((((((w'.setCell ⟨g, 0, none⟩ x0).setCell ⟨g, 1, none⟩ x1).setCell ⟨g, 2, none⟩ x2).setCell ⟨g, 3, none⟩ x3).setCell ⟨g, 4, none⟩ x4).setCell ⟨g, 5, none⟩ x5) := (((((h.setCell (p := ⟨g, 0, none⟩) hg x0).setCell (p := ⟨g, 1, none⟩) hg x1).setCell (p := ⟨g, 2, none⟩) hg x2).setCell (p := ⟨g, 3, none⟩) hg x3).setCell (p := ⟨g, 4, none⟩) hg x4).setCell (p := ⟨g, 5, none⟩) hg x5
theorem own_far {w : World} {base : Nat} {e : TypeId} {size n : Nat} {v : Value} {xs : List Value} (h : w.ownsRow base e size v n xs) {g : Nat} (hg : g < base) (i : Nat) (u : Value) : (w.setCell ⟨g, i, none⟩ u).ownsRow base e size v n xs :=
  World.ownsRow.kept h (grownBy_setCell w g i u) (.inr fun e => by have := (World.ownsRow.lt h g e).1; omega)
theorem own_set6 {w : World} {base : Nat} {e : TypeId} {size n : Nat} {v : Value} {xs : List Value} (h : w.ownsRow base e size v n xs) {g : Nat} (hg : g < base) (x0 x1 x2 x3 x4 x5 : Value) : ((((((w.setCell ⟨g, 0, none⟩ x0).setCell ⟨g, 1, none⟩ x1).setCell ⟨g, 2, none⟩ x2).setCell ⟨g, 3, none⟩ x3).setCell ⟨g, 4, none⟩ x4).setCell ⟨g, 5, none⟩ x5).ownsRow base e size v n xs :=
  own_far (own_far (own_far (own_far (own_far (own_far h hg 0 x0) hg 1 x1) hg 2 x2) hg 3 x3) hg 4 x4) hg 5 x5
theorem dgF {w : World} {g : Nat} {t : TypeId} {cs : Array Value} (h : Blk w g t cs) : w.frozen? ⟨g, 0, none⟩ = false ∧ w.frozen? ⟨g, 1, none⟩ = false ∧ w.frozen? ⟨g, 2, none⟩ = false ∧ w.frozen? ⟨g, 3, none⟩ = false ∧ w.frozen? ⟨g, 4, none⟩ = false ∧ w.frozen? ⟨g, 5, none⟩ = false :=
  ⟨h.frozen 0, h.frozen 1, h.frozen 2, h.frozen 3, h.frozen 4, h.frozen 5⟩
theorem new_rm1 (w : World) (m : Mv) : RM (w.alloc (.cells #[.int .i64 m.1, .int .i64 m.2.1, .int .i64 m.2.2.1, .int .i64 m.2.2.2] 46)) (some ⟨w.heap.size, 0, none⟩) [m] := fun k hk => by
  rw [List.length_singleton] at hk
  obtain rfl : k = 0 := by omega
  have h := Blk.new w 46 #[.int .i64 m.1, .int .i64 m.2.1, .int .i64 m.2.2.1, .int .i64 m.2.2.2]
  exact ⟨w.heap.size, 0, rfl, h.cell 0, h.cell 1, h.cell 2, h.cell 3⟩
/-- the call returns the dialogue with one more move -/
def RetApl (n : Nat) (l : List (Int × Int)) (root l0 l1 : Int) (ms : List Mv) (w : World) : Ending → World → Prop := fun e w' => ∃ A c M cm, e = .returned (.tuple #[.agg #[.int .i64 (n : Int), .slice A l.length c, .int .i64 root, .int .i64 l0, .int .i64 l1, .slice M ms.length cm], .int .i64 0]) ∧ OwnP w' w.heap.size (.slice A l.length c) l ∧ OwnM w' w.heap.size (.slice M ms.length cm) ms ∧ Below w.heap.size w w'
set_option maxRecDepth 100000 in
set_option maxHeartbeats 8000000 in
theorem apply_any (n : Nat) (A : Option Addr) (l : List (Int × Int)) (c : Nat) (root l0 l1 : Int) (M : Option Addr) (ms : List Mv) (cm : Nat) (m : Mv) (w : World) (hp : RP w A l) (hA : A = none → l = [] ∧ c = 0) (hv : InR n l) (hr : RM w M ms) (hm : OkM ms) (hl : ms.length ≤ 250) (hll : l.length ≤ 1600) (ht : turnF l0 l1 l ms ≠ 0) (hmay : MayB l ms m) :
    Calls Try.prog 31 #[.agg #[.int .i64 (n : Int), .slice A l.length c, .int .i64 root, .int .i64 l0, .int .i64 l1, .slice M ms.length cm], .agg #[.int .i64 m.1, .int .i64 m.2.1, .int .i64 m.2.2.1, .int .i64 m.2.2.2]] w (RetApl n l root l0 l1 (ms ++ [m]) w) := by
  have hpos := hm.pos
  have hMb : ∀ b o, M = some ⟨b, o, none⟩ → b < w.heap.size := fun b o e => by
    obtain ⟨b', o', e', h0, _⟩ := hr 0 hpos
    rw [e] at e'; injection e' with e'; injection e' with e1 _ _
    rw [e1]; exact lt_of_cell h0
  have HM := Lib.hid hm; have Hv := Lib.hid hv; have Hmay := Lib.hid hmay; have HA := Lib.hid hA; have HMb := Lib.hid hMb
  have HMn := Lib.hid (show M = none → ms = [] ∧ cm = 0 from fun e => by obtain ⟨b', o', e', _⟩ := hr 0 hpos; rw [e] at e'; cases e')
  have hne : (turnF l0 l1 l ms == 0) = false := beq_eq_false_iff_ne.2 ht
  clear hm hv hmay hA hMb ht
  go_enter Try.func31, Try.ntmps31
  go_upto_region 1 with fail
  obtain ⟨W0, hW, k0, k1, k2, hb0, hs0⟩ := boxed3A w 34 46 34 #[.int .i64 (n : Int), .slice A l.length c, .int .i64 root, .int .i64 l0, .int .i64 l1, .slice M ms.length cm] #[.int .i64 m.1, .int .i64 m.2.1, .int .i64 m.2.2.1, .int .i64 m.2.2.2] #[.int .i64 0, .slice none 0 0, .int .i64 0, .int .i64 0, .int .i64 0, .slice none 0 0]
  rw [hW]
  obtain ⟨z0, z1, z2, z3, z4, z5⟩ := dgC k0
  have hp0 := hp.below hb0; have hr0 := hr.below hb0
  clear hW hp hr
  go_wp2_with fail
  refine (turn_any n A l c root l0 l1 M ms cm W0 hp0 hr0 HM.out (by omega) hll).mono ?_
  rintro e w1 ⟨rfl, hb1⟩
  have Hp1 := Lib.hid (hp0.below hb1); have Hr1 := Lib.hid (hr0.below hb1)
  have hs1 := hb1.size
  have kd := k0.below hb1 (by omega)
  have km := k1.below hb1 (by omega)
  have Kt := Lib.hid (k2.below hb1 (by omega))
  obtain ⟨e0, e1, e2, e3, e4, e5⟩ := dgC kd
  obtain ⟨u0, u1, u2, u3, _, _, _, _⟩ := mvC km
  have Hb1 := Lib.hid (hb0.trans (hb1.mono hb0.size))
  have Kd := Lib.hid kd
  clear k0 k1 k2 hb0 hp0 hr0 hb1 z0 z1 z2 z3 z4 z5 kd km
  go_upto_region 3 with fail
  clear hne
  go_cut [6, 7] (fun s6 s7 wx => ∃ q, s6 = Value.pointer (some ⟨q, 0, none⟩) ∧ s7 = Value.int .i64 0 ∧ w1.heap.size ≤ q ∧ Blk wx q 46 #[.int .i64 m.1, .int .i64 m.2.1, .int .i64 m.2.2.1, .int .i64 m.2.2.2] ∧ Below w1.heap.size w1 wx)
  case first =>
    refine wp_region_tree [1, 3, 7, 8] (fun w' => Below w1.heap.size w1 w') (fun w' => BxM none w1.heap.size w') 10 [0, 1, 2, 3, 4, 5, 6, 7, 8, 9] (by rfl) (by decide) (by kernel_rfl) (by kernel_rfl) (Below.refl _ _).drew BxM.no ?_
    refine TxtT.pure 0 (by rfl) (by rw [List.getElem?_toArray]; rfl) (by rfl) (by as_aux_lemma => kernel_rfl) (by rfl) ?_; apply Exists.intro; refine ⟨fun w1 hS1 => ?_, ?_⟩; (focus ((have g0 := (hS1.cell (lt_of_cell e0)).trans e0); (have g1 := (hS1.cell (lt_of_cell e1)).trans e1); (have g2 := (hS1.cell (lt_of_cell e2)).trans e2); (have g3 := (hS1.cell (lt_of_cell e3)).trans e3); (have g4 := (hS1.cell (lt_of_cell e4)).trans e4); (have g5 := (hS1.cell (lt_of_cell e5)).trans e5); go_simp; with_reducible rfl))
    rw [show List.erase [0, 1, 2, 3, 4, 5, 6, 7, 8, 9] 0 = [1, 2, 3, 4, 5, 6, 7, 8, 9] from rfl]; simp only [Act.put, List.setIfInBounds_toArray, List.set_cons_zero, List.set_cons_succ]
    refine TxtT.pure 2 (by rfl) (by rw [List.getElem?_toArray]; rfl) (by rfl) (by as_aux_lemma => kernel_rfl) (by rfl) ?_; apply Exists.intro; refine ⟨fun w1 hS1 => ?_, ?_⟩; (focus ((have g0 := (hS1.cell (lt_of_cell u0)).trans u0); (have g1 := (hS1.cell (lt_of_cell u1)).trans u1); (have g2 := (hS1.cell (lt_of_cell u2)).trans u2); (have g3 := (hS1.cell (lt_of_cell u3)).trans u3); go_simp; with_reducible rfl))
    rw [show List.erase [1, 2, 3, 4, 5, 6, 7, 8, 9] 2 = [1, 3, 4, 5, 6, 7, 8, 9] from rfl]; simp only [Act.put, List.setIfInBounds_toArray, List.set_cons_zero, List.set_cons_succ]
    refine TxtT.two 1 7 (by as_aux_lemma => kernel_rfl) (by rw [List.getElem?_toArray]; rfl) (by rw [List.getElem?_toArray]; rfl) (by rfl) (by rfl) (by rfl) (by rfl) (fun v => ∃ gS gL, v = Value.agg #[.int .i64 (n : Int), .slice A l.length c, .int .i64 root, .int .i64 l0, .int .i64 l1, .slice M ms.length cm, .slice (some ⟨gS, 0, none⟩) ms.length ms.length, .int .i64 (leadr ms), .slice (some ⟨gL, 0, none⟩) ms.length ms.length]) (fun v w' => BxM none w1.heap.size w' ∧ ∀ gS gL, v = Value.agg #[.int .i64 (n : Int), .slice A l.length c, .int .i64 root, .int .i64 l0, .int .i64 l1, .slice M ms.length cm, .slice (some ⟨gS, 0, none⟩) ms.length ms.length, .int .i64 (leadr ms), .slice (some ⟨gL, 0, none⟩) ms.length ms.length] → RowB w' gL ms.length (ldF ms)) (fun v => ∃ q, v = Value.pointer (some ⟨q, 0, none⟩)) (fun v w' => ∃ q, v = Value.pointer (some ⟨q, 0, none⟩) ∧ BxM (some q) w1.heap.size w') (fun w1 hS1 hJ1 => ?_) (fun w1 hS1 hJ1 => ?_) ?_ ?_
    · refine Eff.call (f := 44) (args := #[.agg #[.int .i64 (n : Int), .slice A l.length c, .int .i64 root, .int .i64 l0, .int .i64 l1, .slice M ms.length cm]]) (by go_simp) ((of_any n A l.length c root l0 l1 M ms cm w1 (Hr1.out.below hS1) HM.out (by omega)).mono ?_)
      rintro e w' ⟨gS, gL, rfl, _, hrl, hb⟩
      refine ⟨_, rfl, hS1.trans (hb.mono hS1.size), ⟨gS, gL, rfl⟩, BxM.below hJ1 hb, fun gS2 gL2 e => ?_⟩
      simp only [Value.agg.injEq, Array.mk.injEq, List.cons.injEq, Value.slice.injEq, Option.some.injEq, Addr.mk.injEq, true_and, and_true] at e
      obtain ⟨rfl, rfl⟩ := e
      exact hrl
    · exact Eff.value (w' := w1.alloc (.cells #[.int .i64 0, .int .i64 0, .int .i64 0, .int .i64 0] 46)) (v := .pointer (some ⟨w1.heap.size, 0, none⟩)) (by go_simp) ⟨hS1.trans ((newB _ _).mono hS1.size), ⟨_, rfl⟩, _, rfl, BxM.new hS1.size⟩
    ·
      rintro _ ⟨gS, gL, rfl⟩
      rw [show List.erase [1, 3, 4, 5, 6, 7, 8, 9] 1 = [3, 4, 5, 6, 7, 8, 9] from rfl]; simp only [Act.put, List.setIfInBounds_toArray, List.set_cons_zero, List.set_cons_succ]
      refine TxtT.weakJ (J2 := (fun w' => BxM none w1.heap.size w' ∧ RowB w' gL ms.length (ldF ms))) (fun w1 h => ⟨h.1, h.2 gS gL rfl⟩) ?_
      refine TxtT.two 3 7 (by as_aux_lemma => kernel_rfl) (by rw [List.getElem?_toArray]; rfl) (by rw [List.getElem?_toArray]; rfl) (by rfl) (by rfl) (by rfl) (by rfl) (fun v => v = Value.tuple #[.agg #[.int .i64 m.1, .int .i64 m.2.1, .int .i64 m.2.2.1, .int .i64 m.2.2.2], .int .i64 0]) (fun _ w' => BxM none w1.heap.size w') (fun v => ∃ q, v = Value.pointer (some ⟨q, 0, none⟩)) (fun v w' => ∃ q, v = Value.pointer (some ⟨q, 0, none⟩) ∧ BxM (some q) w1.heap.size w' ∧ RowB w' gL ms.length (ldF ms)) (fun w1 hS1 hJ1 => ?_) (fun w1 hS1 hJ1 => ?_) ?_ ?_
      · refine Eff.call (f := 52) (args := #[.agg #[.int .i64 (n : Int), .slice A l.length c, .int .i64 root, .int .i64 l0, .int .i64 l1, .slice M ms.length cm, .slice (some ⟨gS, 0, none⟩) ms.length ms.length, .int .i64 (leadr ms), .slice (some ⟨gL, 0, none⟩) ms.length ms.length], .agg #[.int .i64 m.1, .int .i64 m.2.1, .int .i64 m.2.2.1, .int .i64 m.2.2.2]]) (by go_simp) ((judged_any n A l c root l0 l1 M ms cm (some ⟨gS, 0, none⟩) ms.length ms.length gL m w1 (Hp1.out.below hS1) Hv.out (Hr1.out.below hS1) HM.out (by omega) hll hJ1.2 Hmay.out).mono ?_)
        rintro e w' ⟨rfl, hb⟩
        exact ⟨_, rfl, hS1.trans (hb.mono hS1.size), rfl, BxM.below hJ1.1 hb⟩
      · exact Eff.value (w' := w1.alloc (.cells #[.int .i64 0, .int .i64 0, .int .i64 0, .int .i64 0] 46)) (v := .pointer (some ⟨w1.heap.size, 0, none⟩)) (by go_simp) ⟨hS1.trans ((newB _ _).mono hS1.size), ⟨_, rfl⟩, _, rfl, BxM.new hS1.size, RowB.below hJ1.2 (newB _ _)⟩
      ·
        rintro _ rfl
        rw [show List.erase [3, 4, 5, 6, 7, 8, 9] 3 = [4, 5, 6, 7, 8, 9] from rfl]; simp only [Act.put, List.setIfInBounds_toArray, List.set_cons_zero, List.set_cons_succ]
        refine TxtT.pure 4 (by rfl) (by rw [List.getElem?_toArray]; rfl) (by rfl) (by as_aux_lemma => kernel_rfl) (by rfl) ?_; apply Exists.intro; refine ⟨fun w1 hS1 => ?_, ?_⟩; (focus (skip; go_simp; with_reducible rfl))
        rw [show List.erase [4, 5, 6, 7, 8, 9] 4 = [5, 6, 7, 8, 9] from rfl]; simp only [Act.put, List.setIfInBounds_toArray, List.set_cons_zero, List.set_cons_succ]
        refine TxtT.pure 5 (by rfl) (by rw [List.getElem?_toArray]; rfl) (by rfl) (by as_aux_lemma => kernel_rfl) (by rfl) ?_; apply Exists.intro; refine ⟨fun w1 hS1 => ?_, ?_⟩; (focus (skip; go_simp; with_reducible rfl))
        rw [show List.erase [5, 6, 7, 8, 9] 5 = [6, 7, 8, 9] from rfl]; simp only [Act.put, List.setIfInBounds_toArray, List.set_cons_zero, List.set_cons_succ]
        refine TxtT.pure 6 (by rfl) (by rw [List.getElem?_toArray]; rfl) (by rfl) (by as_aux_lemma => kernel_rfl) (by rfl) ?_; apply Exists.intro; refine ⟨fun w1 hS1 => ?_, ?_⟩; (focus (skip; go_simp; with_reducible rfl))
        rw [show List.erase [6, 7, 8, 9] 6 = [7, 8, 9] from rfl]; simp only [Act.put, List.setIfInBounds_toArray, List.set_cons_zero, List.set_cons_succ]
        refine TxtT.one 7 (by as_aux_lemma => kernel_rfl) (by rw [List.getElem?_toArray]; rfl) (by rfl) (by rfl) (fun v => ∃ q, v = Value.pointer (some ⟨q, 0, none⟩)) (fun v w' => ∃ q, v = Value.pointer (some ⟨q, 0, none⟩) ∧ BxM (some q) w1.heap.size w') (fun w1 hS1 hJ1 => ?_) ?_
        · exact Eff.value (w' := w1.alloc (.cells #[.int .i64 0, .int .i64 0, .int .i64 0, .int .i64 0] 46)) (v := .pointer (some ⟨w1.heap.size, 0, none⟩)) (by go_simp) ⟨hS1.trans ((newB _ _).mono hS1.size), ⟨_, rfl⟩, _, rfl, BxM.new hS1.size⟩
        rintro _ ⟨q, rfl⟩
        rw [show List.erase [7, 8, 9] 7 = [8, 9] from rfl]; simp only [Act.put, List.setIfInBounds_toArray, List.set_cons_zero, List.set_cons_succ]
        refine TxtT.weakJ (J2 := (fun w' => BxM (some q) w1.heap.size w')) (fun w1 h => by obtain ⟨q', hq, h⟩ := h; injection hq with hq; injection hq with hq; injection hq with hq _ _; subst hq; exact h) ?_
        refine TxtT.one 8 (by as_aux_lemma => kernel_rfl) (by rw [List.getElem?_toArray]; rfl) (by rfl) (by rfl) (fun v => v = undef) (fun _ w' => w1.heap.size ≤ q ∧ Blk w' q 46 #[.int .i64 m.1, .int .i64 m.2.1, .int .i64 m.2.2.1, .int .i64 m.2.2.2]) (fun w1 hS1 hJ1 => ?_) ?_
        · obtain ⟨hq, hk⟩ := hJ1 q rfl
          obtain ⟨g0, g1, g2, g3, f0, f1, f2, f3⟩ := mvC hk
          exact Eff.skip (w' := (((w1.setCell ⟨q, 0, none⟩ (.int .i64 m.1)).setCell ⟨q, 1, none⟩ (.int .i64 m.2.1)).setCell ⟨q, 2, none⟩ (.int .i64 m.2.2.1)).setCell ⟨q, 3, none⟩ (.int .i64 m.2.2.2)) (by go_simp) ⟨below_set4 hS1 hq _ _ _ _, rfl, hq, set4 hk _ _ _ _⟩
        rintro _ rfl
        rw [show List.erase [8, 9] 8 = [9] from rfl]; simp only [Act.put]
        refine TxtT.pure 9 (by rfl) (by rw [List.getElem?_toArray]; rfl) (by rfl) (by as_aux_lemma => kernel_rfl) (by rfl) ?_; apply Exists.intro; refine ⟨fun w1 hS1 => ?_, ?_⟩; (focus (skip; go_simp; with_reducible rfl))
        rw [show List.erase [9] 9 = [] from rfl]; simp only [Act.put, List.setIfInBounds_toArray, List.set_cons_zero, List.set_cons_succ]
        refine ⟨rfl, fun w1 hS1 hJ1 => ?_⟩
        go_wp2_with fail
        go_meet
        exact ⟨q, rfl, rfl, hJ1.1, hJ1.2, hS1⟩
      ·
        rintro _ ⟨q, rfl⟩
        rw [show List.erase [3, 4, 5, 6, 7, 8, 9] 7 = [3, 4, 5, 6, 8, 9] from rfl]; simp only [Act.put, List.setIfInBounds_toArray, List.set_cons_zero, List.set_cons_succ]
        refine TxtT.weakJ (J2 := (fun w' => BxM (some q) w1.heap.size w' ∧ RowB w' gL ms.length (ldF ms))) (fun w1 h => by obtain ⟨q', hq, h⟩ := h; injection hq with hq; injection hq with hq; injection hq with hq _ _; subst hq; exact h) ?_
        refine TxtT.one 3 (by as_aux_lemma => kernel_rfl) (by rw [List.getElem?_toArray]; rfl) (by rfl) (by rfl) (fun v => v = Value.tuple #[.agg #[.int .i64 m.1, .int .i64 m.2.1, .int .i64 m.2.2.1, .int .i64 m.2.2.2], .int .i64 0]) (fun _ w' => BxM (some q) w1.heap.size w') (fun w1 hS1 hJ1 => ?_) ?_
        · refine Eff.call (f := 52) (args := #[.agg #[.int .i64 (n : Int), .slice A l.length c, .int .i64 root, .int .i64 l0, .int .i64 l1, .slice M ms.length cm, .slice (some ⟨gS, 0, none⟩) ms.length ms.length, .int .i64 (leadr ms), .slice (some ⟨gL, 0, none⟩) ms.length ms.length], .agg #[.int .i64 m.1, .int .i64 m.2.1, .int .i64 m.2.2.1, .int .i64 m.2.2.2]]) (by go_simp) ((judged_any n A l c root l0 l1 M ms cm (some ⟨gS, 0, none⟩) ms.length ms.length gL m w1 (Hp1.out.below hS1) Hv.out (Hr1.out.below hS1) HM.out (by omega) hll hJ1.2 Hmay.out).mono ?_)
          rintro e w' ⟨rfl, hb⟩
          exact ⟨_, rfl, hS1.trans (hb.mono hS1.size), rfl, BxM.below hJ1.1 hb⟩
        rintro _ rfl
        rw [show List.erase [3, 4, 5, 6, 8, 9] 3 = [4, 5, 6, 8, 9] from rfl]; simp only [Act.put, List.setIfInBounds_toArray, List.set_cons_zero, List.set_cons_succ]
        refine TxtT.pure 4 (by rfl) (by rw [List.getElem?_toArray]; rfl) (by rfl) (by as_aux_lemma => kernel_rfl) (by rfl) ?_; apply Exists.intro; refine ⟨fun w1 hS1 => ?_, ?_⟩; (focus (skip; go_simp; with_reducible rfl))
        rw [show List.erase [4, 5, 6, 8, 9] 4 = [5, 6, 8, 9] from rfl]; simp only [Act.put, List.setIfInBounds_toArray, List.set_cons_zero, List.set_cons_succ]
        refine TxtT.pure 5 (by rfl) (by rw [List.getElem?_toArray]; rfl) (by rfl) (by as_aux_lemma => kernel_rfl) (by rfl) ?_; apply Exists.intro; refine ⟨fun w1 hS1 => ?_, ?_⟩; (focus (skip; go_simp; with_reducible rfl))
        rw [show List.erase [5, 6, 8, 9] 5 = [6, 8, 9] from rfl]; simp only [Act.put, List.setIfInBounds_toArray, List.set_cons_zero, List.set_cons_succ]
        refine TxtT.pure 6 (by rfl) (by rw [List.getElem?_toArray]; rfl) (by rfl) (by as_aux_lemma => kernel_rfl) (by rfl) ?_; apply Exists.intro; refine ⟨fun w1 hS1 => ?_, ?_⟩; (focus (skip; go_simp; with_reducible rfl))
        rw [show List.erase [6, 8, 9] 6 = [8, 9] from rfl]; simp only [Act.put, List.setIfInBounds_toArray, List.set_cons_zero, List.set_cons_succ]
        refine TxtT.one 8 (by as_aux_lemma => kernel_rfl) (by rw [List.getElem?_toArray]; rfl) (by rfl) (by rfl) (fun v => v = undef) (fun _ w' => w1.heap.size ≤ q ∧ Blk w' q 46 #[.int .i64 m.1, .int .i64 m.2.1, .int .i64 m.2.2.1, .int .i64 m.2.2.2]) (fun w1 hS1 hJ1 => ?_) ?_
        · obtain ⟨hq, hk⟩ := hJ1 q rfl
          obtain ⟨g0, g1, g2, g3, f0, f1, f2, f3⟩ := mvC hk
          exact Eff.skip (w' := (((w1.setCell ⟨q, 0, none⟩ (.int .i64 m.1)).setCell ⟨q, 1, none⟩ (.int .i64 m.2.1)).setCell ⟨q, 2, none⟩ (.int .i64 m.2.2.1)).setCell ⟨q, 3, none⟩ (.int .i64 m.2.2.2)) (by go_simp) ⟨below_set4 hS1 hq _ _ _ _, rfl, hq, set4 hk _ _ _ _⟩
        rintro _ rfl
        rw [show List.erase [8, 9] 8 = [9] from rfl]; simp only [Act.put]
        refine TxtT.pure 9 (by rfl) (by rw [List.getElem?_toArray]; rfl) (by rfl) (by as_aux_lemma => kernel_rfl) (by rfl) ?_; apply Exists.intro; refine ⟨fun w1 hS1 => ?_, ?_⟩; (focus (skip; go_simp; with_reducible rfl))
        rw [show List.erase [9] 9 = [] from rfl]; simp only [Act.put, List.setIfInBounds_toArray, List.set_cons_zero, List.set_cons_succ]
        refine ⟨rfl, fun w1 hS1 hJ1 => ?_⟩
        go_wp2_with fail
        go_meet
        exact ⟨q, rfl, rfl, hJ1.1, hJ1.2, hS1⟩
    ·
      rintro _ ⟨q, rfl⟩
      rw [show List.erase [1, 3, 4, 5, 6, 7, 8, 9] 7 = [1, 3, 4, 5, 6, 8, 9] from rfl]; simp only [Act.put, List.setIfInBounds_toArray, List.set_cons_zero, List.set_cons_succ]
      refine TxtT.weakJ (J2 := (fun w' => BxM (some q) w1.heap.size w')) (fun w1 h => by obtain ⟨q', hq, h⟩ := h; injection hq with hq; injection hq with hq; injection hq with hq _ _; subst hq; exact h) ?_
      refine TxtT.one 1 (by as_aux_lemma => kernel_rfl) (by rw [List.getElem?_toArray]; rfl) (by rfl) (by rfl) (fun v => ∃ gS gL, v = Value.agg #[.int .i64 (n : Int), .slice A l.length c, .int .i64 root, .int .i64 l0, .int .i64 l1, .slice M ms.length cm, .slice (some ⟨gS, 0, none⟩) ms.length ms.length, .int .i64 (leadr ms), .slice (some ⟨gL, 0, none⟩) ms.length ms.length]) (fun v w' => BxM (some q) w1.heap.size w' ∧ ∀ gS gL, v = Value.agg #[.int .i64 (n : Int), .slice A l.length c, .int .i64 root, .int .i64 l0, .int .i64 l1, .slice M ms.length cm, .slice (some ⟨gS, 0, none⟩) ms.length ms.length, .int .i64 (leadr ms), .slice (some ⟨gL, 0, none⟩) ms.length ms.length] → RowB w' gL ms.length (ldF ms)) (fun w1 hS1 hJ1 => ?_) ?_
      · refine Eff.call (f := 44) (args := #[.agg #[.int .i64 (n : Int), .slice A l.length c, .int .i64 root, .int .i64 l0, .int .i64 l1, .slice M ms.length cm]]) (by go_simp) ((of_any n A l.length c root l0 l1 M ms cm w1 (Hr1.out.below hS1) HM.out (by omega)).mono ?_)
        rintro e w' ⟨gS, gL, rfl, _, hrl, hb⟩
        refine ⟨_, rfl, hS1.trans (hb.mono hS1.size), ⟨gS, gL, rfl⟩, BxM.below hJ1 hb, fun gS2 gL2 e => ?_⟩
        simp only [Value.agg.injEq, Array.mk.injEq, List.cons.injEq, Value.slice.injEq, Option.some.injEq, Addr.mk.injEq, true_and, and_true] at e
        obtain ⟨rfl, rfl⟩ := e
        exact hrl
      rintro _ ⟨gS, gL, rfl⟩
      rw [show List.erase [1, 3, 4, 5, 6, 8, 9] 1 = [3, 4, 5, 6, 8, 9] from rfl]; simp only [Act.put, List.setIfInBounds_toArray, List.set_cons_zero, List.set_cons_succ]
      refine TxtT.weakJ (J2 := (fun w' => BxM (some q) w1.heap.size w' ∧ RowB w' gL ms.length (ldF ms))) (fun w1 h => ⟨h.1, h.2 gS gL rfl⟩) ?_
      refine TxtT.one 3 (by as_aux_lemma => kernel_rfl) (by rw [List.getElem?_toArray]; rfl) (by rfl) (by rfl) (fun v => v = Value.tuple #[.agg #[.int .i64 m.1, .int .i64 m.2.1, .int .i64 m.2.2.1, .int .i64 m.2.2.2], .int .i64 0]) (fun _ w' => BxM (some q) w1.heap.size w') (fun w1 hS1 hJ1 => ?_) ?_
      · refine Eff.call (f := 52) (args := #[.agg #[.int .i64 (n : Int), .slice A l.length c, .int .i64 root, .int .i64 l0, .int .i64 l1, .slice M ms.length cm, .slice (some ⟨gS, 0, none⟩) ms.length ms.length, .int .i64 (leadr ms), .slice (some ⟨gL, 0, none⟩) ms.length ms.length], .agg #[.int .i64 m.1, .int .i64 m.2.1, .int .i64 m.2.2.1, .int .i64 m.2.2.2]]) (by go_simp) ((judged_any n A l c root l0 l1 M ms cm (some ⟨gS, 0, none⟩) ms.length ms.length gL m w1 (Hp1.out.below hS1) Hv.out (Hr1.out.below hS1) HM.out (by omega) hll hJ1.2 Hmay.out).mono ?_)
        rintro e w' ⟨rfl, hb⟩
        exact ⟨_, rfl, hS1.trans (hb.mono hS1.size), rfl, BxM.below hJ1.1 hb⟩
      rintro _ rfl
      rw [show List.erase [3, 4, 5, 6, 8, 9] 3 = [4, 5, 6, 8, 9] from rfl]; simp only [Act.put, List.setIfInBounds_toArray, List.set_cons_zero, List.set_cons_succ]
      refine TxtT.pure 4 (by rfl) (by rw [List.getElem?_toArray]; rfl) (by rfl) (by as_aux_lemma => kernel_rfl) (by rfl) ?_; apply Exists.intro; refine ⟨fun w1 hS1 => ?_, ?_⟩; (focus (skip; go_simp; with_reducible rfl))
      rw [show List.erase [4, 5, 6, 8, 9] 4 = [5, 6, 8, 9] from rfl]; simp only [Act.put, List.setIfInBounds_toArray, List.set_cons_zero, List.set_cons_succ]
      refine TxtT.pure 5 (by rfl) (by rw [List.getElem?_toArray]; rfl) (by rfl) (by as_aux_lemma => kernel_rfl) (by rfl) ?_; apply Exists.intro; refine ⟨fun w1 hS1 => ?_, ?_⟩; (focus (skip; go_simp; with_reducible rfl))
      rw [show List.erase [5, 6, 8, 9] 5 = [6, 8, 9] from rfl]; simp only [Act.put, List.setIfInBounds_toArray, List.set_cons_zero, List.set_cons_succ]
      refine TxtT.pure 6 (by rfl) (by rw [List.getElem?_toArray]; rfl) (by rfl) (by as_aux_lemma => kernel_rfl) (by rfl) ?_; apply Exists.intro; refine ⟨fun w1 hS1 => ?_, ?_⟩; (focus (skip; go_simp; with_reducible rfl))
      rw [show List.erase [6, 8, 9] 6 = [8, 9] from rfl]; simp only [Act.put, List.setIfInBounds_toArray, List.set_cons_zero, List.set_cons_succ]
      refine TxtT.one 8 (by as_aux_lemma => kernel_rfl) (by rw [List.getElem?_toArray]; rfl) (by rfl) (by rfl) (fun v => v = undef) (fun _ w' => w1.heap.size ≤ q ∧ Blk w' q 46 #[.int .i64 m.1, .int .i64 m.2.1, .int .i64 m.2.2.1, .int .i64 m.2.2.2]) (fun w1 hS1 hJ1 => ?_) ?_
      · obtain ⟨hq, hk⟩ := hJ1 q rfl
        obtain ⟨g0, g1, g2, g3, f0, f1, f2, f3⟩ := mvC hk
        exact Eff.skip (w' := (((w1.setCell ⟨q, 0, none⟩ (.int .i64 m.1)).setCell ⟨q, 1, none⟩ (.int .i64 m.2.1)).setCell ⟨q, 2, none⟩ (.int .i64 m.2.2.1)).setCell ⟨q, 3, none⟩ (.int .i64 m.2.2.2)) (by go_simp) ⟨below_set4 hS1 hq _ _ _ _, rfl, hq, set4 hk _ _ _ _⟩
      rintro _ rfl
      rw [show List.erase [8, 9] 8 = [9] from rfl]; simp only [Act.put]
      refine TxtT.pure 9 (by rfl) (by rw [List.getElem?_toArray]; rfl) (by rfl) (by as_aux_lemma => kernel_rfl) (by rfl) ?_; apply Exists.intro; refine ⟨fun w1 hS1 => ?_, ?_⟩; (focus (skip; go_simp; with_reducible rfl))
      rw [show List.erase [9] 9 = [] from rfl]; simp only [Act.put, List.setIfInBounds_toArray, List.set_cons_zero, List.set_cons_succ]
      refine ⟨rfl, fun w1 hS1 hJ1 => ?_⟩
      go_wp2_with fail
      go_meet
      exact ⟨q, rfl, rfl, hJ1.1, hJ1.2, hS1⟩
  obtain ⟨q, rfl, rfl, hq, hkq, hS⟩ := hcut
  have kd := Kd.out.below hS (by omega)
  have Kt2 := Lib.hid (Kt.out.below hS (by omega))
  obtain ⟨x0, x1, x2, x3, x4, x5⟩ := dgC kd
  have Hr2 := Lib.hid (Hr1.out.below hS); have Hp2 := Lib.hid (Hp1.out.below hS)
  have Hb2 := Lib.hid (Hb1.out.trans (hS.mono Hb1.out.size))
  have hs2 := hS.size
  have hqc := hkq.lt
  have Hkq := Lib.hid hkq; have Kd2 := Lib.hid kd
  clear e0 e1 e2 e3 e4 e5 u0 u1 u2 u3 hS kd hkq Hr1 Hp1 Hb1 Kd Kt
  go_upto_region 7 with fail
  obtain ⟨w8, hw8, k8, hb8, hs8⟩ := boxedA wc 34 #[.int .i64 (n : Int), .slice A l.length c, .int .i64 root, .int .i64 l0, .int .i64 l1, .slice M ms.length cm]
  rw [hw8]
  have kd8 := Kd2.out.below hb8 Kd2.out.lt
  obtain ⟨y0, y1, y2, y3, y4, y5⟩ := dgC kd8
  have hp8 := Hp2.out.below hb8
  have Hr8 := Lib.hid (Hr2.out.below hb8)
  have Kt8 := Lib.hid (Kt2.out.below hb8 (by omega)); have Kq8 := Lib.hid (Hkq.out.below hb8 hqc)
  have Hb8 := Lib.hid (Hb2.out.trans (hb8.mono Hb2.out.size))
  have Kd8 := Lib.hid kd8
  clear hw8 x0 x1 x2 x3 x4 x5 Hr2 Hp2 Hb2 Hkq Kd2 Kt2 hb8 kd8
  generalize hg8 : wc.heap.size = g8 at *
  go_wp2_with fail
  refine (clonePs_any A l c w8 hp8 HA.out (by omega)).mono ?_
  rintro e w9 ⟨A2, c2, rfl, ho2, hb9⟩
  have k9 := k8.below hb9 (by omega)
  have f1 := k9.frozen 1
  have c1 : w9.cell? ⟨g8, 1, none⟩ = some (.slice A l.length c) := k9.cell 1
  have K9 := Lib.hid (show Blk (w9.setCell ⟨g8, 1, none⟩ (.slice A2 l.length c2)) g8 34 #[.int .i64 (n : Int), .slice A2 l.length c2, .int .i64 root, .int .i64 l0, .int .i64 l1, .slice M ms.length cm] from k9.set_ 1 _)
  have Ho9 := Lib.hid (show OwnP (w9.setCell ⟨g8, 1, none⟩ (.slice A2 l.length c2)) w8.heap.size (.slice A2 l.length c2) l from own_far ho2 (by omega) 1 _)
  have hb98 := Below.setCell (p := ⟨g8, 1, none⟩) (hb9.mono (show g8 ≤ w8.heap.size by omega)) (Nat.le_refl _) (.slice A2 l.length c2)
  have hs9 := hb9.size
  have Hb9 := Lib.hid (Hb8.out.trans (hb98.mono (show w.heap.size ≤ g8 by have := Hb8.out.size; omega)))
  have Kd9 := Lib.hid (Kd8.out.below hb98 (by omega)); have Kt9 := Lib.hid (Kt8.out.below hb98 (by omega)); have Kq9 := Lib.hid (Kq8.out.below hb98 (by omega))
  have hr9 : RM (w9.setCell ⟨g8, 1, none⟩ (.slice A2 l.length c2)) M ms := (Hr8.out.below hb9).grown (grownBy_setCell w9 g8 1 _) (fun b o e => by have := HMb.out b o e; have := Hb8.out.size; omega)
  have Hr9 := Lib.hid hr9
  clear k8 k9 ho2 hb9 y0 y1 y2 y3 y4 y5 hp8 Hr8 hr9 Hb8 Kd8 Kt8 Kq8 hb98
  go_upto_region 8 with fail
  have hsz : (w9.setCell ⟨g8, 1, none⟩ (.slice A2 l.length c2)).heap.size = w9.heap.size := by simp
  generalize w9.setCell ⟨g8, 1, none⟩ (.slice A2 l.length c2) = W9 at *
  have hg9 : g8 < W9.heap.size := by omega
  have hG9 : w.heap.size ≤ g8 := by omega
  have hne0 : some w.heap.size ≠ some g8 := fun e => by injection e with e; omega
  have hneq : some q ≠ some g8 := fun e => by injection e with e; omega
  have hnet : some (w.heap.size + 2) ≠ some g8 := fun e => by injection e with e; omega
  refine wp_region_tree [2, 4, 5, 7] (fun w' => Near g8 W9.heap.size W9 w') (fun w' => Blk w' g8 34 #[.int .i64 (n : Int), .slice A2 l.length c2, .int .i64 root, .int .i64 l0, .int .i64 l1, .slice M ms.length cm]) 8 [0, 1, 2, 3, 4, 5, 6, 7] (by rfl) (by decide) (by kernel_rfl) (by kernel_rfl) (Near.of_below (Below.refl _ _).drew) (K9.out.below (Below.refl _ _).drew hg9) ?_
  refine TxtT.pure 0 (by rfl) (by rw [List.getElem?_toArray]; rfl) (by rfl) (by as_aux_lemma => kernel_rfl) (by rfl) ?_; apply Exists.intro; refine ⟨fun w1 hS1 => ?_, ?_⟩; (focus ((obtain ⟨v0, v1, v2, v3, v4, v5⟩ := dgC (Kd9.out.grown hS1.grown hne0)); go_simp; with_reducible rfl))
  rw [show List.erase [0, 1, 2, 3, 4, 5, 6, 7] 0 = [1, 2, 3, 4, 5, 6, 7] from rfl]; simp only [Act.put, List.setIfInBounds_toArray, List.set_cons_zero, List.set_cons_succ]
  refine TxtT.pure 1 (by rfl) (by rw [List.getElem?_toArray]; rfl) (by rfl) (by as_aux_lemma => kernel_rfl) (by rfl) ?_; apply Exists.intro; refine ⟨fun w1 hS1 => ?_, ?_⟩; (focus ((obtain ⟨v0, v1, v2, v3, v4, v5⟩ := dgC (Kd9.out.grown hS1.grown hne0)); go_simp; with_reducible rfl))
  rw [show List.erase [1, 2, 3, 4, 5, 6, 7] 1 = [2, 3, 4, 5, 6, 7] from rfl]; simp only [Act.put, List.setIfInBounds_toArray, List.set_cons_zero, List.set_cons_succ]
  refine TxtT.pure 3 (by rfl) (by rw [List.getElem?_toArray]; rfl) (by rfl) (by as_aux_lemma => kernel_rfl) (by rfl) ?_; apply Exists.intro; refine ⟨fun w1 hS1 => ?_, ?_⟩; (focus ((obtain ⟨v0, v1, v2, v3, _, _, _, _⟩ := mvC (Kq9.out.grown hS1.grown hneq)); go_simp; with_reducible rfl))
  rw [show List.erase [2, 3, 4, 5, 6, 7] 3 = [2, 4, 5, 6, 7] from rfl]; simp only [Act.put, List.setIfInBounds_toArray, List.set_cons_zero, List.set_cons_succ]
  refine TxtT.two 2 4 (by as_aux_lemma => kernel_rfl) (by rw [List.getElem?_toArray]; rfl) (by rw [List.getElem?_toArray]; rfl) (by rfl) (by rfl) (by rfl) (by rfl) (fun v => ∃ M2 cm2, v = Value.slice M2 ms.length cm2) (fun v w' => ∃ M2 cm2, v = Value.slice M2 ms.length cm2 ∧ Blk w' g8 34 #[.int .i64 (n : Int), .slice A2 l.length c2, .int .i64 root, .int .i64 l0, .int .i64 l1, .slice M ms.length cm] ∧ OwnM w' W9.heap.size (.slice M2 ms.length cm2) ms) (fun v => ∃ gE, v = Value.slice (some ⟨gE, 0, none⟩) 1 1) (fun v w' => ∃ gE, v = Value.slice (some ⟨gE, 0, none⟩) 1 1 ∧ Blk w' g8 34 #[.int .i64 (n : Int), .slice A2 l.length c2, .int .i64 root, .int .i64 l0, .int .i64 l1, .slice M ms.length cm] ∧ RM w' (some ⟨gE, 0, none⟩) [m]) (fun w1 hS1 hJ1 => ?_) (fun w1 hS1 hJ1 => ?_) ?_ ?_
  · refine Eff.call (f := 28) (args := #[.slice M ms.length cm]) (by go_simp) ((cloneM_any M ms cm w1 (Hr9.out.grown hS1.grown (fun b o e => by have := HMb.out b o e; omega)) HMn.out (by omega)).mono ?_)
    rintro e w' ⟨M2, cm2, rfl, ho, hb⟩
    exact ⟨_, rfl, hS1.trans (Near.of_below (hb.mono hS1.size)), ⟨M2, cm2, rfl⟩, M2, cm2, rfl, hJ1.below hb hJ1.lt, ho.mono hS1.size⟩
  · exact Eff.value (w' := w1.alloc (.cells #[.int .i64 m.1, .int .i64 m.2.1, .int .i64 m.2.2.1, .int .i64 m.2.2.2] 46)) (v := .slice (some ⟨w1.heap.size, 0, none⟩) 1 1) (by go_simp) ⟨hS1.trans (Near.of_below ((newB _ _).mono hS1.size)), ⟨_, rfl⟩, w1.heap.size, rfl, hJ1.alloc _, new_rm1 w1 m⟩
  ·
    rintro _ ⟨M2, cm2, rfl⟩
    rw [show List.erase [2, 4, 5, 6, 7] 2 = [4, 5, 6, 7] from rfl]; simp only [Act.put, List.setIfInBounds_toArray, List.set_cons_zero, List.set_cons_succ]
    refine TxtT.weakJ (J2 := (fun w' => Blk w' g8 34 #[.int .i64 (n : Int), .slice A2 l.length c2, .int .i64 root, .int .i64 l0, .int .i64 l1, .slice M ms.length cm] ∧ OwnM w' W9.heap.size (.slice M2 ms.length cm2) ms)) (fun w1 h => by obtain ⟨M2', cm2', hq, h⟩ := h; injection hq with hq _ hq2; subst hq; subst hq2; exact h) ?_
    refine TxtT.one 4 (by as_aux_lemma => kernel_rfl) (by rw [List.getElem?_toArray]; rfl) (by rfl) (by rfl) (fun v => ∃ gE, v = Value.slice (some ⟨gE, 0, none⟩) 1 1) (fun v w' => ∃ gE, v = Value.slice (some ⟨gE, 0, none⟩) 1 1 ∧ Blk w' g8 34 #[.int .i64 (n : Int), .slice A2 l.length c2, .int .i64 root, .int .i64 l0, .int .i64 l1, .slice M ms.length cm] ∧ RM w' (some ⟨gE, 0, none⟩) [m] ∧ OwnM w' W9.heap.size (.slice M2 ms.length cm2) ms) (fun w1 hS1 hJ1 => ?_) ?_
    · exact Eff.value (w' := w1.alloc (.cells #[.int .i64 m.1, .int .i64 m.2.1, .int .i64 m.2.2.1, .int .i64 m.2.2.2] 46)) (v := .slice (some ⟨w1.heap.size, 0, none⟩) 1 1) (by go_simp) ⟨hS1.trans (Near.of_below ((newB _ _).mono hS1.size)), ⟨_, rfl⟩, w1.heap.size, rfl, hJ1.1.alloc _, new_rm1 w1 m, hJ1.2.below (newB _ _)⟩
    rintro _ ⟨gE, rfl⟩
    rw [show List.erase [4, 5, 6, 7] 4 = [5, 6, 7] from rfl]; simp only [Act.put, List.setIfInBounds_toArray, List.set_cons_zero, List.set_cons_succ]
    refine TxtT.weakJ (J2 := (fun w' => Blk w' g8 34 #[.int .i64 (n : Int), .slice A2 l.length c2, .int .i64 root, .int .i64 l0, .int .i64 l1, .slice M ms.length cm] ∧ OwnM w' W9.heap.size (.slice M2 ms.length cm2) ms ∧ RM w' (some ⟨gE, 0, none⟩) [m])) (fun w1 h => by obtain ⟨g', hq, h⟩ := h; injection hq with hq; injection hq with hq; injection hq with hq _ _; subst hq; exact ⟨h.1, h.2.2, h.2.1⟩) ?_
    refine TxtT.one 5 (by as_aux_lemma => kernel_rfl) (by rw [List.getElem?_toArray]; rfl) (by rfl) (by rfl) (fun v => ∃ M3 cm3, v = Value.slice M3 (ms ++ [m]).length cm3) (fun v w' => Blk w' g8 34 #[.int .i64 (n : Int), .slice A2 l.length c2, .int .i64 root, .int .i64 l0, .int .i64 l1, .slice M ms.length cm] ∧ OwnM w' W9.heap.size v (ms ++ [m])) (fun w1 hS1 hJ1 => Eff.of_list (ops := #[]) (by rfl) ?_) ?_
    · refine wpList_appMs (by rfl) _ _ (by rfl) w1 W9.heap.size _ ms (some ⟨gE, 0, none⟩) [m] 1 hJ1.2.1 hJ1.2.2 (fun e => by cases e) (by rfl) (by rfl) (by simp; omega) hS1.size ?_
      intro v' w' ho hb hg
      obtain ⟨M3, cm3, e', _, _, _⟩ := ho.form
      exact ⟨rfl, v', rfl, hS1.trans (Near.of_below hb), ⟨M3, cm3, e'⟩, hJ1.1.below hb hg9, ho⟩
    rintro _ ⟨M3, cm3, rfl⟩
    rw [show List.erase [5, 6, 7] 5 = [6, 7] from rfl]; simp only [Act.put, List.setIfInBounds_toArray, List.set_cons_zero, List.set_cons_succ]
    refine TxtT.pure 6 (by rfl) (by rw [List.getElem?_toArray]; rfl) (by rfl) (by as_aux_lemma => kernel_rfl) (by rfl) ?_; apply Exists.intro; refine ⟨fun w1 hS1 => ?_, ?_⟩; (focus (skip; go_simp; with_reducible rfl))
    rw [show List.erase [6, 7] 6 = [7] from rfl]; simp only [Act.put, List.setIfInBounds_toArray, List.set_cons_zero, List.set_cons_succ]
    refine TxtT.one 7 (by as_aux_lemma => kernel_rfl) (by rw [List.getElem?_toArray]; rfl) (by rfl) (by rfl) (fun v => v = undef) (fun _ w' => Blk w' g8 34 #[.int .i64 (n : Int), .slice A2 l.length c2, .int .i64 root, .int .i64 l0, .int .i64 l1, .slice M3 (ms ++ [m]).length cm3] ∧ OwnM w' W9.heap.size (.slice M3 (ms ++ [m]).length cm3) (ms ++ [m])) (fun w1 hS1 hJ1 => ?_) ?_
    · have f5 := hJ1.1.frozen 5
      have c5 : w1.cell? ⟨g8, 5, none⟩ = some (.slice M ms.length cm) := hJ1.1.cell 5
      exact Eff.skip (w' := w1.setCell ⟨g8, 5, none⟩ (.slice M3 (ms ++ [m]).length cm3)) (by go_simp) ⟨hS1.trans ⟨rfl, rfl, rfl, by simp, fun k _ hk => Below.heap_setCell w1 _ _ k hk⟩, rfl, hJ1.1.set_ 5 _, own_far hJ1.2 hg9 5 _⟩
    rintro _ rfl
    rw [show List.erase [7] 7 = [] from rfl]; simp only [Act.put]
    refine ⟨rfl, fun w1 hS1 hJ1 => ?_⟩
    have hgr := hS1.grown
    have hA2 : OwnP w1 w8.heap.size (.slice A2 l.length c2) l := World.ownsRow.kept Ho9.out hgr (.inr fun e => by have := (World.ownsRow.lt Ho9.out g8 e).1; omega)
    have hkt := Kt9.out.grown hgr hnet
    obtain ⟨q0, q1, q2, q3, q4, q5⟩ := dgC hkt
    obtain ⟨f0, f1, f2, f3, f4, f5⟩ := dgF hkt
    obtain ⟨j0, j1, j2, j3, j4, j5⟩ := dgC hJ1.1
    have HA2 := Lib.hid hA2; have Hkt := Lib.hid hkt; have HM3 := Lib.hid hJ1.2
    have Hbb := Lib.hid (Below.trans Hb9.out (Below.mono ⟨hS1.os, hS1.tape, hS1.output, hS1.size, fun k hk => hS1.block k (by omega) (by omega)⟩ hG9))
    clear hA2 hkt hJ1 hS1 hgr
    go_wp2_with fail
    have hk2 := set6 (g := w.heap.size + 1 + 1) Hkt.out (.int .i64 (n : Int)) (.slice A2 l.length c2) (.int .i64 root) (.int .i64 l0) (.int .i64 l1) (.slice M3 (ms.length + 1) cm3)
    obtain ⟨r0, r1, r2, r3, r4, r5⟩ := dgC hk2
    have hl1 : (ms ++ [m]).length = ms.length + 1 := by simp
    refine bodyPost_ret (v := .tuple #[.agg #[.int .i64 (n : Int), .slice A2 l.length c2, .int .i64 root, .int .i64 l0, .int .i64 l1, .slice M3 (ms.length + 1) cm3], .int .i64 0]) (by simp [results, Try.results31, go_sem, r0, r1, r2, r3, r4, r5]) rfl ?_
    exact ⟨A2, c2, M3, cm3, by rw [hl1], ownsRow_mono (own_set6 HA2.out (by omega) ..) (by omega), OwnM.mono (own_set6 HM3.out (by omega) ..) (by omega), below_set6 Hbb.out (by omega) ..⟩
  ·
    rintro _ ⟨gE, rfl⟩
    rw [show List.erase [2, 4, 5, 6, 7] 4 = [2, 5, 6, 7] from rfl]; simp only [Act.put, List.setIfInBounds_toArray, List.set_cons_zero, List.set_cons_succ]
    refine TxtT.weakJ (J2 := (fun w' => Blk w' g8 34 #[.int .i64 (n : Int), .slice A2 l.length c2, .int .i64 root, .int .i64 l0, .int .i64 l1, .slice M ms.length cm] ∧ RM w' (some ⟨gE, 0, none⟩) [m])) (fun w1 h => by obtain ⟨g', hq, h⟩ := h; injection hq with hq; injection hq with hq; injection hq with hq _ _; subst hq; exact h) ?_
    refine TxtT.one 2 (by as_aux_lemma => kernel_rfl) (by rw [List.getElem?_toArray]; rfl) (by rfl) (by rfl) (fun v => ∃ M2 cm2, v = Value.slice M2 ms.length cm2) (fun v w' => ∃ M2 cm2, v = Value.slice M2 ms.length cm2 ∧ Blk w' g8 34 #[.int .i64 (n : Int), .slice A2 l.length c2, .int .i64 root, .int .i64 l0, .int .i64 l1, .slice M ms.length cm] ∧ OwnM w' W9.heap.size (.slice M2 ms.length cm2) ms ∧ RM w' (some ⟨gE, 0, none⟩) [m]) (fun w1 hS1 hJ1 => ?_) ?_
    · refine Eff.call (f := 28) (args := #[.slice M ms.length cm]) (by go_simp) ((cloneM_any M ms cm w1 (Hr9.out.grown hS1.grown (fun b o e => by have := HMb.out b o e; omega)) HMn.out (by omega)).mono ?_)
      rintro e w' ⟨M2, cm2, rfl, ho, hb⟩
      exact ⟨_, rfl, hS1.trans (Near.of_below (hb.mono hS1.size)), ⟨M2, cm2, rfl⟩, M2, cm2, rfl, hJ1.1.below hb hJ1.1.lt, ho.mono hS1.size, hJ1.2.below hb⟩
    rintro _ ⟨M2, cm2, rfl⟩
    rw [show List.erase [2, 5, 6, 7] 2 = [5, 6, 7] from rfl]; simp only [Act.put, List.setIfInBounds_toArray, List.set_cons_zero, List.set_cons_succ]
    refine TxtT.weakJ (J2 := (fun w' => Blk w' g8 34 #[.int .i64 (n : Int), .slice A2 l.length c2, .int .i64 root, .int .i64 l0, .int .i64 l1, .slice M ms.length cm] ∧ OwnM w' W9.heap.size (.slice M2 ms.length cm2) ms ∧ RM w' (some ⟨gE, 0, none⟩) [m])) (fun w1 h => by obtain ⟨M2', cm2', hq, h⟩ := h; injection hq with hq _ hq2; subst hq; subst hq2; exact h) ?_
    refine TxtT.one 5 (by as_aux_lemma => kernel_rfl) (by rw [List.getElem?_toArray]; rfl) (by rfl) (by rfl) (fun v => ∃ M3 cm3, v = Value.slice M3 (ms ++ [m]).length cm3) (fun v w' => Blk w' g8 34 #[.int .i64 (n : Int), .slice A2 l.length c2, .int .i64 root, .int .i64 l0, .int .i64 l1, .slice M ms.length cm] ∧ OwnM w' W9.heap.size v (ms ++ [m])) (fun w1 hS1 hJ1 => Eff.of_list (ops := #[]) (by rfl) ?_) ?_
    · refine wpList_appMs (by rfl) _ _ (by rfl) w1 W9.heap.size _ ms (some ⟨gE, 0, none⟩) [m] 1 hJ1.2.1 hJ1.2.2 (fun e => by cases e) (by rfl) (by rfl) (by simp; omega) hS1.size ?_
      intro v' w' ho hb hg
      obtain ⟨M3, cm3, e', _, _, _⟩ := ho.form
      exact ⟨rfl, v', rfl, hS1.trans (Near.of_below hb), ⟨M3, cm3, e'⟩, hJ1.1.below hb hg9, ho⟩
    rintro _ ⟨M3, cm3, rfl⟩
    rw [show List.erase [5, 6, 7] 5 = [6, 7] from rfl]; simp only [Act.put, List.setIfInBounds_toArray, List.set_cons_zero, List.set_cons_succ]
    refine TxtT.pure 6 (by rfl) (by rw [List.getElem?_toArray]; rfl) (by rfl) (by as_aux_lemma => kernel_rfl) (by rfl) ?_; apply Exists.intro; refine ⟨fun w1 hS1 => ?_, ?_⟩; (focus (skip; go_simp; with_reducible rfl))
    rw [show List.erase [6, 7] 6 = [7] from rfl]; simp only [Act.put, List.setIfInBounds_toArray, List.set_cons_zero, List.set_cons_succ]
    refine TxtT.one 7 (by as_aux_lemma => kernel_rfl) (by rw [List.getElem?_toArray]; rfl) (by rfl) (by rfl) (fun v => v = undef) (fun _ w' => Blk w' g8 34 #[.int .i64 (n : Int), .slice A2 l.length c2, .int .i64 root, .int .i64 l0, .int .i64 l1, .slice M3 (ms ++ [m]).length cm3] ∧ OwnM w' W9.heap.size (.slice M3 (ms ++ [m]).length cm3) (ms ++ [m])) (fun w1 hS1 hJ1 => ?_) ?_
    · have f5 := hJ1.1.frozen 5
      have c5 : w1.cell? ⟨g8, 5, none⟩ = some (.slice M ms.length cm) := hJ1.1.cell 5
      exact Eff.skip (w' := w1.setCell ⟨g8, 5, none⟩ (.slice M3 (ms ++ [m]).length cm3)) (by go_simp) ⟨hS1.trans ⟨rfl, rfl, rfl, by simp, fun k _ hk => Below.heap_setCell w1 _ _ k hk⟩, rfl, hJ1.1.set_ 5 _, own_far hJ1.2 hg9 5 _⟩
    rintro _ rfl
    rw [show List.erase [7] 7 = [] from rfl]; simp only [Act.put]
    refine ⟨rfl, fun w1 hS1 hJ1 => ?_⟩
    have hgr := hS1.grown
    have hA2 : OwnP w1 w8.heap.size (.slice A2 l.length c2) l := World.ownsRow.kept Ho9.out hgr (.inr fun e => by have := (World.ownsRow.lt Ho9.out g8 e).1; omega)
    have hkt := Kt9.out.grown hgr hnet
    obtain ⟨q0, q1, q2, q3, q4, q5⟩ := dgC hkt
    obtain ⟨f0, f1, f2, f3, f4, f5⟩ := dgF hkt
    obtain ⟨j0, j1, j2, j3, j4, j5⟩ := dgC hJ1.1
    have HA2 := Lib.hid hA2; have Hkt := Lib.hid hkt; have HM3 := Lib.hid hJ1.2
    have Hbb := Lib.hid (Below.trans Hb9.out (Below.mono ⟨hS1.os, hS1.tape, hS1.output, hS1.size, fun k hk => hS1.block k (by omega) (by omega)⟩ hG9))
    clear hA2 hkt hJ1 hS1 hgr
    go_wp2_with fail
    have hk2 := set6 (g := w.heap.size + 1 + 1) Hkt.out (.int .i64 (n : Int)) (.slice A2 l.length c2) (.int .i64 root) (.int .i64 l0) (.int .i64 l1) (.slice M3 (ms.length + 1) cm3)
    obtain ⟨r0, r1, r2, r3, r4, r5⟩ := dgC hk2
    have hl1 : (ms ++ [m]).length = ms.length + 1 := by simp
    refine bodyPost_ret (v := .tuple #[.agg #[.int .i64 (n : Int), .slice A2 l.length c2, .int .i64 root, .int .i64 l0, .int .i64 l1, .slice M3 (ms.length + 1) cm3], .int .i64 0]) (by simp [results, Try.results31, go_sem, r0, r1, r2, r3, r4, r5]) rfl ?_
    exact ⟨A2, c2, M3, cm3, by rw [hl1], ownsRow_mono (own_set6 HA2.out (by omega) ..) (by omega), OwnM.mono (own_set6 HM3.out (by omega) ..) (by omega), below_set6 Hbb.out (by omega) ..⟩
end Go.Proofs.Ythkknlnfdckdfaa
