/- The walk of the statement TopWithheld. (The regions of several orders are printed by gen_wh.py.) -/
import Derived.Test.YthkknlnfdckdfaaDoorWhP
import Derived.Test.YthkknlnfdckdfaaDoorAw30
namespace Go.Proofs.YthkknlnfdckdfaaDoor
open Go.ChangeShapes Go.WideShapes Go.ChangeAt Go.RowKit

/-- the player's box that was laid, if it was -/
def BxQ (o : Option Nat) (m : Nat) (w : World) : Prop := ∀ q, o = some q → m ≤ q ∧ Blk w q 32 #[.slice none 0 0, .slice none 0 0, .slice none 0 0, .int .i64 0]
theorem BxQ.no {m : Nat} {w : World} : BxQ Option.none m w := fun q e => by cases e
theorem BxQ.new {m : Nat} {w : World} (h : m ≤ w.heap.size) : BxQ (some w.heap.size) m (w.alloc (.cells #[.slice none 0 0, .slice none 0 0, .slice none 0 0, .int .i64 0] 32)) := fun q e => by
  injection e with e; subst e; exact ⟨h, Blk.new _ _ _⟩
theorem BxQ.below {o : Option Nat} {m : Nat} {w w' : World} (h : BxQ o m w) (hb : Below w.heap.size w w') : BxQ o m w' := fun q e => ⟨(h q e).1, (h q e).2.below hb (h q e).2.lt⟩
theorem BxQ.grown {o : Option Nat} {m p : Nat} {w w' : World} (h : BxQ o m w) (hg : w.grownBy w' (some p)) (hp : p < m) : BxQ o m w' := fun q e =>
  ⟨(h q e).1, (h q e).2.grown hg (fun e' => by injection e' with e'; have := (h q e).1; omega)⟩
theorem src_set4 {w : World} {p D : Nat} (h : SrcOk w p) (hp : p < D) (x0 x1 x2 x3 : Value) : SrcOk ((((w.setCell ⟨D, 0, none⟩ x0).setCell ⟨D, 1, none⟩ x1).setCell ⟨D, 2, none⟩ x2).setCell ⟨D, 3, none⟩ x3) p := by
  have e := fun (X : World) (i : Nat) (u : Value) (h : SrcOk X p) => h.other (grownBy_setCell X D i u) (fun k hk => by injection hk with hk; omega)
  exact e _ _ _ (e _ _ _ (e _ _ _ (e _ _ _ h)))
theorem src_set6 {w : World} {p D : Nat} (h : SrcOk w p) (hp : p < D) (x0 x1 x2 x3 x4 x5 : Value) : SrcOk ((((((w.setCell ⟨D, 0, none⟩ x0).setCell ⟨D, 1, none⟩ x1).setCell ⟨D, 2, none⟩ x2).setCell ⟨D, 3, none⟩ x3).setCell ⟨D, 4, none⟩ x4).setCell ⟨D, 5, none⟩ x5) p := by
  have e := fun (X : World) (i : Nat) (u : Value) (h : SrcOk X p) => h.other (grownBy_setCell X D i u) (fun k hk => by injection hk with hk; omega)
  exact e _ _ _ (e _ _ _ (e _ _ _ (e _ _ _ (e _ _ _ (e _ _ _ h)))))
theorem near_wide {p B B' : Nat} {a w : World} (h : Near p B' a w) (hB : B ≤ B') : Near p B a w := ⟨h.os, h.tape, h.output, h.size, fun k hk hn => h.block k (by omega) hn⟩
theorem near_set6o {p B : Nat} {a w : World} {g : Nat} (h : Near p B a w) (hg : B ≤ g) (x0 x1 x2 x3 x4 x5 : Value) : Near p B a ((((((w.setCell ⟨g, 0, none⟩ x0).setCell ⟨g, 1, none⟩ x1).setCell ⟨g, 2, none⟩ x2).setCell ⟨g, 3, none⟩ x3).setCell ⟨g, 4, none⟩ x4).setCell ⟨g, 5, none⟩ x5) :=
  (((((h.setCell (q := ⟨g, 0, none⟩) hg x0).setCell (q := ⟨g, 1, none⟩) hg x1).setCell (q := ⟨g, 2, none⟩) hg x2).setCell (q := ⟨g, 3, none⟩) hg x3).setCell (q := ⟨g, 4, none⟩) hg x4).setCell (q := ⟨g, 5, none⟩) hg x5
theorem BxD.grown {o : Option Nat} {m p : Nat} {w w' : World} (h : BxD o m w) (hg : w.grownBy w' (some p)) (hp : p < m) : BxD o m w' := fun q e =>
  ⟨(h q e).1, (h q e).2.grown hg (fun e' => by injection e' with e'; have := (h q e).1; omega)⟩
theorem pvW_inj {s : Int} {P P' : Option Addr} {k pc pc' : Nat} (e : Value.agg #[.slice P k pc, .slice none 0 0, .slice none 0 0, .int .i64 s] = Value.agg #[.slice P' k pc', .slice none 0 0, .slice none 0 0, .int .i64 s]) : P = P' := by
  simp at e
  exact e.1
theorem tvW_inj {n z : Int} {A A' M M' : Option Addr} {k r c c' cm cm' : Nat} (e : Value.tuple #[.agg #[.int .i64 n, .slice A k c, .int .i64 z, .int .i64 200, .int .i64 200, .slice M r cm], .int .i64 0] = Value.tuple #[.agg #[.int .i64 n, .slice A' k c', .int .i64 z, .int .i64 200, .int .i64 200, .slice M' r cm'], .int .i64 0]) : A = A' ∧ M = M' := by
  simp at e
  exact ⟨e.1.1, e.2.1⟩
set_option maxRecDepth 100000 in
set_option maxHeartbeats 16000000 in
theorem withheld_law_any (A : Option Addr) (arg : List Int) (c : Nat) (w : World)
    (hlc : arg.length ≤ c) (hc : c ≤ 9223372036854775807) (hr : RI w A arg) (hx : ∀ x ∈ arg, -9223372036854775808 ≤ x ∧ x ≤ 9223372036854775807) (hT : Tab w) :
    Calls Tryd.prog 3 #[.slice A arg.length c] w (RetB (.bool true) w) := by
  go_enter Tryd.func3, Tryd.ntmps3
  go_wp2_with fail
  refine (new_any A arg c w hlc hc hr hx).mono ?_
  rintro e w1 ⟨p, rfl, hp, hs1, hb1⟩
  clear hr hx
  go_wp2_with fail
  refine (graph2_any p 7 w1 hs1 (by omega)).mono ?_
  rintro e w2 ⟨n, l, AL, cl, rfl, hN, hv, hrp, hloc, hs2, hg2, hAn⟩
  have hb2 : Below w.heap.size w w2 := hb1.trans (below_of_grownBy hg2 hp hb1.size)
  have hp2 := hs2.lt
  have hAp : ∀ b o, AL = some ⟨b, o, none⟩ → 0 < l.length → b ≠ p := fun b o e _ => by have := hloc b o e; have := hs1.lt; omega
  have HV := Lib.hid hv
  have hn40 := hv.1.1
  have hll := len_of_vld hv
  clear hs1 hb1 hg2 hv hloc
  go_upto_region 3 with fail
  obtain ⟨W0, hW, k0, hb0, hs0⟩ := boxedA w2 27 #[.int .i64 (n : Int), .slice AL l.length cl]
  rw [hW]
  obtain ⟨z0, z1, _, _⟩ := k0.two
  have hsW := hs2.kept hb0
  have hs20 := hb0.size
  have hrp0 := hrp.below hb0
  have hB0 := endB hb2 hb0
  have hG : p < w2.heap.size := hp2
  generalize hGe : w2.heap.size = G at *
  clear hW k0 hb0 hs2 hrp hb2 hGe
  go_wp2_with fail
  refine (gLabel_any AL n l cl W0 hrp0 HV.out (hT.below hB0)).mono ?_
  rintro e W4 ⟨AX, cx, rfl, hox, hrx, _, hb4⟩
  have hxl := lst_length n (grL n l)
  have hxg : ∀ i, i < n → (lst n (grL n l)).getD i 0 = grL n l i := fun i hi => lst_getD hi
  generalize lst n (grL n l) = x at *
  have hxn : ((x.length : Int) != (n : Int)) = false := by simp [hxl]
  have hB4 := endB hB0 hb4
  have HAX := Lib.hid (show ∀ b o, AX = some ⟨b, o, none⟩ → x ≠ [] → p < b ∧ b < W4.heap.size from fun b o e _ => by
    subst e
    have h1 := World.ownsRow.lt hox b rfl
    have h2 := hsW.lt
    omega)
  have z0 := (hb4.cell (lt_of_cell z0)).trans z0
  have z1 := (hb4.cell (lt_of_cell z1)).trans z1
  have HS4 := Lib.hid (hsW.kept hb4)
  have Hrp := Lib.hid (hrp0.below hb4); have HAp := Lib.hid hAp; have HAn := Lib.hid hAn; have Hrx := Lib.hid hrx
  have hGW : G < W4.heap.size := lt_of_cell z0
  have hpW : p < W4.heap.size := by omega
  have HB4 := Lib.hid hB4; have Hxl := Lib.hid hxl; have Hxg := Lib.hid hxg; have Hp := Lib.hid hp
  have hGp : G ≠ p := by omega
  clear hsW hrp0 hAp hAn hrx hb4 hB4 hB0 hox hT
  go_upto_region 6 with fail
  clear hxn
  go_cut [6] (fun s6 wx => ∃ q P pc sty, s6 = Value.pointer (some ⟨q, 0, none⟩) ∧ 1 ≤ sty ∧ sty ≤ 3 ∧ W4.heap.size ≤ q ∧ Blk wx q 32 #[.slice P (allI n).length pc, .slice none 0 0, .slice none 0 0, .int .i64 sty] ∧ SrcOk wx p ∧ Near p W4.heap.size W4 wx)
  case first =>
    refine wp_region_tree [2, 4, 5, 6] (fun w' => Near p W4.heap.size W4 w') (fun w' => SrcOk w' p ∧ BxQ none W4.heap.size w') 7 [0, 1, 2, 3, 4, 5, 6] (by rfl) (by decide) (by kernel_rfl) (by kernel_rfl) (Near.of_below (Below.refl _ _).drew) ⟨HS4.out, BxQ.no⟩ ?_
    refine TxtT.pure 0 (by rfl) (by rw [List.getElem?_toArray]; rfl) (by rfl) (by kernel_rfl) (by rfl) ?_; apply Exists.intro; refine ⟨fun w1 hS1 => ?_, ?_⟩; (focus ((have g0 := (near_cell hS1 (lt_of_cell z0) (by dsimp only; omega)).trans z0); (have g1 := (near_cell hS1 (lt_of_cell z1) (by dsimp only; omega)).trans z1); go_simp; with_reducible rfl))
    rw [show List.erase [0, 1, 2, 3, 4, 5, 6] 0 = [1, 2, 3, 4, 5, 6] from rfl]; simp only [Act.put, List.setIfInBounds_toArray, List.set_cons_zero, List.set_cons_succ]
    refine TxtT.pure 1 (by rfl) (by rw [List.getElem?_toArray]; rfl) (by rfl) (by kernel_rfl) (by rfl) ?_; apply Exists.intro; refine ⟨fun w1 hS1 => ?_, ?_⟩; (focus (skip; go_simp; with_reducible rfl))
    rw [show List.erase [1, 2, 3, 4, 5, 6] 1 = [2, 3, 4, 5, 6] from rfl]; simp only [Act.put, List.setIfInBounds_toArray, List.set_cons_zero, List.set_cons_succ]
    refine TxtT.two 2 5 (by kernel_rfl) (by rw [List.getElem?_toArray]; rfl) (by rw [List.getElem?_toArray]; rfl) (by rfl) (by rfl) (by rfl) (by rfl) (fun u => ∃ d : Int, u = Value.int .i64 d ∧ 0 ≤ d ∧ d ≤ 2) (fun _ w' => SrcOk w' p ∧ BxQ none W4.heap.size w') (fun u => ∃ q, u = Value.pointer (some ⟨q, 0, none⟩)) (fun u w' => ∃ q, u = Value.pointer (some ⟨q, 0, none⟩) ∧ SrcOk w' p ∧ BxQ (some q) W4.heap.size w') (fun w1 hS1 hJ1 => ?_) (fun w1 hS1 hJ1 => ?_) ?_ ?_
    · refine Eff.call (f := 8) (args := #[.pointer (some ⟨p, 0, none⟩), .int .i64 3]) (by go_simp) ((n_any p 3 w1 hJ1.1 (by omega) (by omega)).mono ?_)
      rintro e w' ⟨d, rfl, h1, h2, hs, hg⟩
      exact ⟨_, rfl, hS1.trans (Near.of_grown hg hS1.size), ⟨d, rfl, h1, by omega⟩, hs, BxQ.grown hJ1.2 hg hpW⟩
    · exact Eff.value (w' := w1.alloc (.cells #[.slice none 0 0, .slice none 0 0, .slice none 0 0, .int .i64 0] 32)) (v := .pointer (some ⟨w1.heap.size, 0, none⟩)) (by go_simp) ⟨hS1.trans (Near.of_below ((newB _ _).mono hS1.size)), ⟨_, rfl⟩, _, rfl, hJ1.1.kept (newB _ _), BxQ.new hS1.size⟩
    ·
      rintro _ ⟨d, rfl, hd0, hd2⟩
      rw [show List.erase [2, 3, 4, 5, 6] 2 = [3, 4, 5, 6] from rfl]; simp only [Act.put, List.setIfInBounds_toArray, List.set_cons_zero, List.set_cons_succ]
      refine TxtT.pure 3 (by rfl) (by rw [List.getElem?_toArray]; rfl) (by rfl) (by kernel_rfl) (by rfl) ?_; apply Exists.intro; refine ⟨fun w1 hS1 => ?_, ?_⟩; (focus ((have hw : IntKind.i64.wrap (1 + d) = 1 + d := by rw [IntKind.wrap_i64]; omega); go_simp; with_reducible rfl))
      rw [show List.erase [3, 4, 5, 6] 3 = [4, 5, 6] from rfl]; simp only [Act.put, List.setIfInBounds_toArray, List.set_cons_zero, List.set_cons_succ]
      refine TxtT.two 4 5 (by kernel_rfl) (by rw [List.getElem?_toArray]; rfl) (by rw [List.getElem?_toArray]; rfl) (by rfl) (by rfl) (by rfl) (by rfl) (fun u => ∃ P pc, u = Value.agg #[.slice P (allI n).length pc, .slice none 0 0, .slice none 0 0, .int .i64 (1 + d)]) (fun _ w' => SrcOk w' p ∧ BxQ none W4.heap.size w') (fun u => ∃ q, u = Value.pointer (some ⟨q, 0, none⟩)) (fun u w' => ∃ q, u = Value.pointer (some ⟨q, 0, none⟩) ∧ SrcOk w' p ∧ BxQ (some q) W4.heap.size w') (fun w1 hS1 hJ1 => ?_) (fun w1 hS1 hJ1 => ?_) ?_ ?_
      · refine Eff.call (f := 7) (args := #[.agg #[.int .i64 (n : Int), .slice AL l.length cl], .int .i64 (1 + d)]) (by go_simp) ((full_any AL n l cl (1 + d) w1 (Hrp.out.grownQ hS1.grown HAp.out) HV.out).mono ?_)
        rintro e w' ⟨P, pc, rfl, ho, hb⟩
        exact ⟨_, rfl, hS1.trans (Near.of_below (hb.mono hS1.size)), ⟨P, pc, rfl⟩, hJ1.1.kept hb, BxQ.below hJ1.2 hb⟩
      · exact Eff.value (w' := w1.alloc (.cells #[.slice none 0 0, .slice none 0 0, .slice none 0 0, .int .i64 0] 32)) (v := .pointer (some ⟨w1.heap.size, 0, none⟩)) (by go_simp) ⟨hS1.trans (Near.of_below ((newB _ _).mono hS1.size)), ⟨_, rfl⟩, _, rfl, hJ1.1.kept (newB _ _), BxQ.new hS1.size⟩
      ·
        rintro _ ⟨P, pc, rfl⟩
        rw [show List.erase [4, 5, 6] 4 = [5, 6] from rfl]; simp only [Act.put, List.setIfInBounds_toArray, List.set_cons_zero, List.set_cons_succ]
        refine TxtT.one 5 (by kernel_rfl) (by rw [List.getElem?_toArray]; rfl) (by rfl) (by rfl) (fun u => ∃ q, u = Value.pointer (some ⟨q, 0, none⟩)) (fun u w' => ∃ q, u = Value.pointer (some ⟨q, 0, none⟩) ∧ SrcOk w' p ∧ BxQ (some q) W4.heap.size w') (fun w1 hS1 hJ1 => ?_) ?_
        · exact Eff.value (w' := w1.alloc (.cells #[.slice none 0 0, .slice none 0 0, .slice none 0 0, .int .i64 0] 32)) (v := .pointer (some ⟨w1.heap.size, 0, none⟩)) (by go_simp) ⟨hS1.trans (Near.of_below ((newB _ _).mono hS1.size)), ⟨_, rfl⟩, _, rfl, hJ1.1.kept (newB _ _), BxQ.new hS1.size⟩
        rintro _ ⟨q, rfl⟩
        rw [show List.erase [5, 6] 5 = [6] from rfl]; simp only [Act.put, List.setIfInBounds_toArray, List.set_cons_zero, List.set_cons_succ]
        refine TxtT.weakJ (J2 := (fun w' => SrcOk w' p ∧ BxQ (some q) W4.heap.size w')) (fun w1 h => by obtain ⟨q', hq, h⟩ := h; injection hq with hq; injection hq with hq; injection hq with hq _ _; subst hq; exact h) ?_
        refine TxtT.one 6 (by kernel_rfl) (by rw [List.getElem?_toArray]; rfl) (by rfl) (by rfl) (fun v => v = undef) (fun _ w' => W4.heap.size ≤ q ∧ Blk w' q 32 #[.slice P (allI n).length pc, .slice none 0 0, .slice none 0 0, .int .i64 (1 + d)] ∧ SrcOk w' p) (fun w1 hS1 hJ1 => ?_) ?_
        · obtain ⟨hq, hk⟩ := hJ1.2 q rfl
          obtain ⟨g0, g1, g2, g3, f0, f1, f2, f3⟩ := mvC hk
          exact Eff.skip (w' := (((w1.setCell ⟨q, 0, none⟩ (.slice P (allI n).length pc)).setCell ⟨q, 1, none⟩ (.slice none 0 0)).setCell ⟨q, 2, none⟩ (.slice none 0 0)).setCell ⟨q, 3, none⟩ (.int .i64 (1 + d))) (by go_simp) ⟨(((hS1.setCell (q := ⟨q, 0, none⟩) hq _).setCell (q := ⟨q, 1, none⟩) hq _).setCell (q := ⟨q, 2, none⟩) hq _).setCell (q := ⟨q, 3, none⟩) hq _, rfl, hq, set4 hk _ _ _ _, src_set4 hJ1.1 (by omega) ..⟩
        rintro _ rfl
        rw [show List.erase [6] 6 = [] from rfl]; simp only [Act.put]
        refine ⟨rfl, fun w1 hS1 hJ1 => ?_⟩
        go_wp2_with fail
        go_meet
        exact ⟨q, P, pc, 1 + d, rfl, by omega, by omega, hJ1.1, hJ1.2.1, hJ1.2.2, hS1⟩
      ·
        rintro _ ⟨q, rfl⟩
        rw [show List.erase [4, 5, 6] 5 = [4, 6] from rfl]; simp only [Act.put, List.setIfInBounds_toArray, List.set_cons_zero, List.set_cons_succ]
        refine TxtT.weakJ (J2 := (fun w' => SrcOk w' p ∧ BxQ (some q) W4.heap.size w')) (fun w1 h => by obtain ⟨q', hq, h⟩ := h; injection hq with hq; injection hq with hq; injection hq with hq _ _; subst hq; exact h) ?_
        refine TxtT.one 4 (by kernel_rfl) (by rw [List.getElem?_toArray]; rfl) (by rfl) (by rfl) (fun u => ∃ P pc, u = Value.agg #[.slice P (allI n).length pc, .slice none 0 0, .slice none 0 0, .int .i64 (1 + d)]) (fun _ w' => SrcOk w' p ∧ BxQ (some q) W4.heap.size w') (fun w1 hS1 hJ1 => ?_) ?_
        · refine Eff.call (f := 7) (args := #[.agg #[.int .i64 (n : Int), .slice AL l.length cl], .int .i64 (1 + d)]) (by go_simp) ((full_any AL n l cl (1 + d) w1 (Hrp.out.grownQ hS1.grown HAp.out) HV.out).mono ?_)
          rintro e w' ⟨P, pc, rfl, ho, hb⟩
          exact ⟨_, rfl, hS1.trans (Near.of_below (hb.mono hS1.size)), ⟨P, pc, rfl⟩, hJ1.1.kept hb, BxQ.below hJ1.2 hb⟩
        rintro _ ⟨P, pc, rfl⟩
        rw [show List.erase [4, 6] 4 = [6] from rfl]; simp only [Act.put, List.setIfInBounds_toArray, List.set_cons_zero, List.set_cons_succ]
        refine TxtT.one 6 (by kernel_rfl) (by rw [List.getElem?_toArray]; rfl) (by rfl) (by rfl) (fun v => v = undef) (fun _ w' => W4.heap.size ≤ q ∧ Blk w' q 32 #[.slice P (allI n).length pc, .slice none 0 0, .slice none 0 0, .int .i64 (1 + d)] ∧ SrcOk w' p) (fun w1 hS1 hJ1 => ?_) ?_
        · obtain ⟨hq, hk⟩ := hJ1.2 q rfl
          obtain ⟨g0, g1, g2, g3, f0, f1, f2, f3⟩ := mvC hk
          exact Eff.skip (w' := (((w1.setCell ⟨q, 0, none⟩ (.slice P (allI n).length pc)).setCell ⟨q, 1, none⟩ (.slice none 0 0)).setCell ⟨q, 2, none⟩ (.slice none 0 0)).setCell ⟨q, 3, none⟩ (.int .i64 (1 + d))) (by go_simp) ⟨(((hS1.setCell (q := ⟨q, 0, none⟩) hq _).setCell (q := ⟨q, 1, none⟩) hq _).setCell (q := ⟨q, 2, none⟩) hq _).setCell (q := ⟨q, 3, none⟩) hq _, rfl, hq, set4 hk _ _ _ _, src_set4 hJ1.1 (by omega) ..⟩
        rintro _ rfl
        rw [show List.erase [6] 6 = [] from rfl]; simp only [Act.put]
        refine ⟨rfl, fun w1 hS1 hJ1 => ?_⟩
        go_wp2_with fail
        go_meet
        exact ⟨q, P, pc, 1 + d, rfl, by omega, by omega, hJ1.1, hJ1.2.1, hJ1.2.2, hS1⟩
    ·
      rintro _ ⟨q, rfl⟩
      rw [show List.erase [2, 3, 4, 5, 6] 5 = [2, 3, 4, 6] from rfl]; simp only [Act.put, List.setIfInBounds_toArray, List.set_cons_zero, List.set_cons_succ]
      refine TxtT.weakJ (J2 := (fun w' => SrcOk w' p ∧ BxQ (some q) W4.heap.size w')) (fun w1 h => by obtain ⟨q', hq, h⟩ := h; injection hq with hq; injection hq with hq; injection hq with hq _ _; subst hq; exact h) ?_
      refine TxtT.one 2 (by kernel_rfl) (by rw [List.getElem?_toArray]; rfl) (by rfl) (by rfl) (fun u => ∃ d : Int, u = Value.int .i64 d ∧ 0 ≤ d ∧ d ≤ 2) (fun _ w' => SrcOk w' p ∧ BxQ (some q) W4.heap.size w') (fun w1 hS1 hJ1 => ?_) ?_
      · refine Eff.call (f := 8) (args := #[.pointer (some ⟨p, 0, none⟩), .int .i64 3]) (by go_simp) ((n_any p 3 w1 hJ1.1 (by omega) (by omega)).mono ?_)
        rintro e w' ⟨d, rfl, h1, h2, hs, hg⟩
        exact ⟨_, rfl, hS1.trans (Near.of_grown hg hS1.size), ⟨d, rfl, h1, by omega⟩, hs, BxQ.grown hJ1.2 hg hpW⟩
      rintro _ ⟨d, rfl, hd0, hd2⟩
      rw [show List.erase [2, 3, 4, 6] 2 = [3, 4, 6] from rfl]; simp only [Act.put, List.setIfInBounds_toArray, List.set_cons_zero, List.set_cons_succ]
      refine TxtT.pure 3 (by rfl) (by rw [List.getElem?_toArray]; rfl) (by rfl) (by kernel_rfl) (by rfl) ?_; apply Exists.intro; refine ⟨fun w1 hS1 => ?_, ?_⟩; (focus ((have hw : IntKind.i64.wrap (1 + d) = 1 + d := by rw [IntKind.wrap_i64]; omega); go_simp; with_reducible rfl))
      rw [show List.erase [3, 4, 6] 3 = [4, 6] from rfl]; simp only [Act.put, List.setIfInBounds_toArray, List.set_cons_zero, List.set_cons_succ]
      refine TxtT.one 4 (by kernel_rfl) (by rw [List.getElem?_toArray]; rfl) (by rfl) (by rfl) (fun u => ∃ P pc, u = Value.agg #[.slice P (allI n).length pc, .slice none 0 0, .slice none 0 0, .int .i64 (1 + d)]) (fun _ w' => SrcOk w' p ∧ BxQ (some q) W4.heap.size w') (fun w1 hS1 hJ1 => ?_) ?_
      · refine Eff.call (f := 7) (args := #[.agg #[.int .i64 (n : Int), .slice AL l.length cl], .int .i64 (1 + d)]) (by go_simp) ((full_any AL n l cl (1 + d) w1 (Hrp.out.grownQ hS1.grown HAp.out) HV.out).mono ?_)
        rintro e w' ⟨P, pc, rfl, ho, hb⟩
        exact ⟨_, rfl, hS1.trans (Near.of_below (hb.mono hS1.size)), ⟨P, pc, rfl⟩, hJ1.1.kept hb, BxQ.below hJ1.2 hb⟩
      rintro _ ⟨P, pc, rfl⟩
      rw [show List.erase [4, 6] 4 = [6] from rfl]; simp only [Act.put, List.setIfInBounds_toArray, List.set_cons_zero, List.set_cons_succ]
      refine TxtT.one 6 (by kernel_rfl) (by rw [List.getElem?_toArray]; rfl) (by rfl) (by rfl) (fun v => v = undef) (fun _ w' => W4.heap.size ≤ q ∧ Blk w' q 32 #[.slice P (allI n).length pc, .slice none 0 0, .slice none 0 0, .int .i64 (1 + d)] ∧ SrcOk w' p) (fun w1 hS1 hJ1 => ?_) ?_
      · obtain ⟨hq, hk⟩ := hJ1.2 q rfl
        obtain ⟨g0, g1, g2, g3, f0, f1, f2, f3⟩ := mvC hk
        exact Eff.skip (w' := (((w1.setCell ⟨q, 0, none⟩ (.slice P (allI n).length pc)).setCell ⟨q, 1, none⟩ (.slice none 0 0)).setCell ⟨q, 2, none⟩ (.slice none 0 0)).setCell ⟨q, 3, none⟩ (.int .i64 (1 + d))) (by go_simp) ⟨(((hS1.setCell (q := ⟨q, 0, none⟩) hq _).setCell (q := ⟨q, 1, none⟩) hq _).setCell (q := ⟨q, 2, none⟩) hq _).setCell (q := ⟨q, 3, none⟩) hq _, rfl, hq, set4 hk _ _ _ _, src_set4 hJ1.1 (by omega) ..⟩
      rintro _ rfl
      rw [show List.erase [6] 6 = [] from rfl]; simp only [Act.put]
      refine ⟨rfl, fun w1 hS1 hJ1 => ?_⟩
      go_wp2_with fail
      go_meet
      exact ⟨q, P, pc, 1 + d, rfl, by omega, by omega, hJ1.1, hJ1.2.1, hJ1.2.2, hS1⟩
  obtain ⟨q, P0, pc0, sty, rfl, hs1, hs3, hq, hk, hsr, hnr⟩ := hcut
  obtain ⟨u0, u1, u2, u3, f0, f1, f2, f3⟩ := mvC hk
  have hkX := (hk.set_ 1 (.slice none 0 0)).set_ 0 (.slice none 0 0)
  have hsX := (hsr.other (grownBy_setCell wc q 1 (.slice none 0 0)) (fun k hk => by injection hk with hk; omega)).other (grownBy_setCell (wc.setCell ⟨q, 1, none⟩ (.slice none 0 0)) q 0 (.slice none 0 0)) (fun k hk => by injection hk with hk; omega)
  have hnX := (hnr.setCell (q := ⟨q, 1, none⟩) hq (.slice none 0 0)).setCell (q := ⟨q, 0, none⟩) hq (.slice none 0 0)
  have Hkx := Lib.hid hkX; have Hsx := Lib.hid hsX; have Hnx := Lib.hid hnX
  have Hz0 := Lib.hid z0; have Hz1 := Lib.hid z1
  clear z0 z1 hk hsr hnr hkX hsX hnX
  go_upto_region 9 with fail
  clear u0 u1 u2 u3 f0 f1 f2 f3
  generalize (wc.setCell ⟨q, 1, none⟩ (.slice none 0 0)).setCell ⟨q, 0, none⟩ (.slice none 0 0) = WX at *
  have hkX : Blk WX q 32 #[.slice none 0 0, .slice none 0 0, .slice none 0 0, .int .i64 sty] := Hkx.out
  have hqX := hkX.lt
  have hrxX : RI WX AX x := Hrx.out.grown Hnx.out.grown (fun b o e h => by have := (HAX.out b o e h).1; omega)
  have hAXq : ∀ b o, AX = some ⟨b, o, none⟩ → x ≠ [] → b ≠ q := fun b o e h => by have := (HAX.out b o e h).2; omega
  have Hrxw := Lib.hid (show ∀ wr, Near q WX.heap.size WX wr → RI wr AX x from fun wr h => hrxX.grown h.grown hAXq)
  clear hrxX hAXq Hkx
  go_wp2_with fail
  go_loopw [35] (fun t wr => ∃ (k : Nat) (P : Option Addr) (pc : Nat), k ≤ n ∧ t = .int .i64 k ∧ Blk wr q 32 #[.slice P (nodesB k fun i => grL n l i == 1).length pc, .slice none 0 0, .slice none 0 0, .int .i64 sty] ∧ OwnI wr WX.heap.size (.slice P (nodesB k fun i => grL n l i == 1).length pc) (nodesB k fun i => grL n l i == 1) ∧ Near q WX.heap.size WX wr) (fun t _ => n - (intOf t).toNat)
  case atStart => exact ⟨0, none, 0, Nat.zero_le _, rfl, hkX, OwnI.nil _ _, Near.refl _ _ _⟩
  case round =>
    clear hkX
    obtain ⟨k, P, pc, hk, rfl, hblk, hown, hnear⟩ := hrel
    obtain ⟨y0, y1, y2, y3, f0, f1, f2, f3⟩ := mvC hblk
    have hxl := Hxl.out
    by_cases hlt : k < n
    case pos =>
      have hlt' : (k : Int) < (x.length : Int) := by omega
      have hk0 : (0 : Int) ≤ (k : Int) := by omega
      obtain ⟨b, o, rfl, e0⟩ := (Hrxw.out wr hnear) k (by omega)
      rw [Hxg.out k hlt] at e0
      have hsz := hnear.size
      have hsuc := nodesB_succ k fun i => grL n l i == 1
      cases hb : (grL n l k == 1)
      · rw [hb] at hsuc
        simp only [Bool.false_eq_true, if_false, List.append_nil] at hsuc
        have Hsuc := Lib.hid hsuc; have Hblk := Lib.hid hblk; have Hown := Lib.hid hown
        clear hsuc hblk hown hxl
        go_wp2_with fail
        go_roundw
        case rel => exact ⟨k + 1, P, pc, by omega, by go_num, by rw [Hsuc.out]; exact Hblk.out, by rw [Hsuc.out]; exact Hown.out, hnear⟩
        case measure => simp [intOf]; omega
      · rw [hb] at hsuc
        simp only [if_true] at hsuc
        have hl6 : (nodesB k fun i => grL n l i == 1).length ≤ 1000000 := by have := nodesB_length k (fun i => grL n l i == 1); omega
        have Hsuc := Lib.hid hsuc; have Hblk := Lib.hid hblk; have Hown := Lib.hid hown; have Hnear := Lib.hid hnear; have Hl6 := Lib.hid hl6
        have Hsz := Lib.hid hsz
        clear hsuc hblk hown hxl hnear hl6 hsz
        go_wp2_with (at_builtin; refine wpList_appI (by rfl) _ _ (by rfl) wr WX.heap.size _ _ (k : Int) Hown.out (by rfl) (by rfl) Hl6.out Hsz.out ?_; intro v' w5 hown' hb5 hg5; rw [← Hsuc.out] at hown'; (obtain ⟨A', c', e', _, _⟩ := OwnI.form hown'); subst e'; have y0 := (hb5.cell (p := ⟨q, 0, none⟩) hqX).trans y0; have f0 := (Hblk.out.below hb5 hqX).frozen 0; have Hb5 := Lib.hid hb5; have Hown' := Lib.hid hown'; clear hb5 hg5 hown')
        go_roundw
        case rel => exact ⟨k + 1, A', c', by omega, by go_num, (Hblk.out.below Hb5.out hqX).set_ 0 _, own_far Hown'.out hqX 0 _, near_setp (Hnear.out.trans (Near.of_below Hb5.out)) 0 _⟩
        case measure => simp [intOf]; omega
    case neg =>
    obtain rfl : n = k := by omega
    have hpool : nodesB n (fun i => grL n l i == 1) = inPool n l := rfl
    rw [hpool] at hblk hown y0
    have hrpX : RP WX AL l := Hrp.out.grownQ Hnx.out.grown HAp.out
    have hqG : G ≠ q := by omega
    have hqp : p < q := by omega
    have z0 := (near_cell hnear (lt_of_cell ((near_cell Hnx.out (lt_of_cell Hz0.out) (by dsimp only; omega)).trans Hz0.out)) (by dsimp only; omega)).trans ((near_cell Hnx.out (lt_of_cell Hz0.out) (by dsimp only; omega)).trans Hz0.out)
    have z1 := (near_cell hnear (lt_of_cell ((near_cell Hnx.out (lt_of_cell Hz1.out) (by dsimp only; omega)).trans Hz1.out)) (by dsimp only; omega)).trans ((near_cell Hnx.out (lt_of_cell Hz1.out) (by dsimp only; omega)).trans Hz1.out)
    have hrpY : RP wr AL l := hrpX.grownQ hnear.grown (fun b o e h0 => by have := rp_lt Hrp.out h0 b o e; omega)
    have hsY : SrcOk wr p := Hsx.out.other hnear.grown (fun k hk => by injection hk with hk; omega)
    have hpw := Hp.out
    have HbY := Lib.hid (HB4.out.trans (((near_below Hnx.out hpW).mono hpw).trans ((near_below hnear hqX).mono (by omega))))
    have hpoY := own_ri hown
    have HPp := Lib.hid (show ∀ b o, P = some ⟨b, o, none⟩ → inPool n l ≠ [] → b ≠ p from fun b o e _ => by
      subst e
      have h1 := (World.ownsRow.lt hown b rfl).1
      omega)
    have Hpl := Lib.hid (show (inPool n l).length ≤ 100000 by have := nodesB_length n (fun i => grL n l i == 1); unfold inPool; omega)
    have Hasc := Lib.hid (show AscP n (inPool n l) from nodesB_asc' _ _)
    have hpY := hsY.lt
    have HrpY := Lib.hid hrpY; have HpoY := Lib.hid hpoY
    have hqY : q < wr.heap.size := hblk.lt
    clear hrpX hblk hown hnear hxl f0 f1 f2 f3 hrpY hpoY
    obtain ⟨WY, hWY⟩ : ∃ WY, WY = wr := ⟨_, rfl⟩
    subst hWY
    go_wp2_with fail
    go_loopw [53] (fun t wr => ∃ j : Nat, j ≤ (inPool n l).length ∧ t = .int .i64 j ∧ SrcOk wr p ∧ Near p WY.heap.size WY wr) (fun t _ => (inPool n l).length - (intOf t).toNat)
    case atStart => exact ⟨0, Nat.zero_le _, rfl, hsY, Near.refl _ _ _⟩
    case round =>
      clear hsY
      obtain ⟨j, hj, rfl, hsw, hnear⟩ := hrel
      by_cases hlt : j < (inPool n l).length
      case neg =>
        have Hn := Lib.hid hnear
        clear hsw hnear y0 y1 y2 y3 z0 z1
        go_wp2_with fail
        refine (awake30_any wr).mono ?_
        rintro e w9 ⟨rfl, hb9⟩
        have Hb := Lib.hid (HbY.out.trans (((near_below Hn.out hpY).mono hpw).trans (hb9.mono (by have := HbY.out.size; have := Hn.out.size; omega))))
        clear hb9
        go_wp2_with fail
        go_ret
        exact ⟨rfl, Hb.out⟩
      case pos =>
      have hlt' : (j : Int) < ((inPool n l).length : Int) := by omega
      have Hlt := Lib.hid hlt
      have hj0 : (0 : Int) ≤ (j : Int) := by omega
      have y0 := (near_cell hnear (lt_of_cell y0) (by dsimp only; omega)).trans y0
      have y1 := (near_cell hnear (lt_of_cell y1) (by dsimp only; omega)).trans y1
      have y2 := (near_cell hnear (lt_of_cell y2) (by dsimp only; omega)).trans y2
      have y3 := (near_cell hnear (lt_of_cell y3) (by dsimp only; omega)).trans y3
      have z0 := (near_cell hnear (lt_of_cell z0) (by dsimp only; omega)).trans z0
      have z1 := (near_cell hnear (lt_of_cell z1) (by dsimp only; omega)).trans z1
      have hrpw : RP wr AL l := HrpY.out.grownQ hnear.grown HAp.out
      have hpow : RI wr P (inPool n l) := HpoY.out.grown hnear.grown HPp.out
      obtain ⟨b, o, hP, e0⟩ := hpow j hlt
      have hzm : (inPool n l).getD j 0 ∈ inPool n l := by
        rw [List.getD_eq_getElem?_getD, List.getElem?_eq_getElem hlt]; exact List.getElem_mem hlt
      obtain ⟨i0, hi0, _, hie⟩ := mem_nodesB.1 hzm
      generalize (inPool n l).getD j 0 = z at *
      have Hz := Lib.hid hzm
      have hz0 : 0 ≤ z := by omega
      have hz1 : z < (n : Int) := by omega
      have Hnw := Lib.hid hnear; have Hpow := Lib.hid hpow
      subst hP
      clear hzm hie hi0 hnear hpow
      go_wp2_with fail
      refine (pnew_any n AL l cl z 200 200 wr hrpw HAn.out HV.out hz0 hz1 (by omega) (by omega) (by omega) (by omega)).mono ?_
      rintro e w5 ⟨A2, c2, M2, cm2, rfl, ho, hm, hb5⟩
      rw [clm_len]
      have y0 := (hb5.cell (lt_of_cell y0)).trans y0
      have y1 := (hb5.cell (lt_of_cell y1)).trans y1
      have y2 := (hb5.cell (lt_of_cell y2)).trans y2
      have y3 := (hb5.cell (lt_of_cell y3)).trans y3
      have z0 := (hb5.cell (lt_of_cell z0)).trans z0
      have z1 := (hb5.cell (lt_of_cell z1)).trans z1
      have hs5 := hsw.kept hb5
      go_upto_region 19 with fail
      obtain ⟨W6, hW6, k10, hb6, hs6⟩ := boxedA w5 37 #[.int .i64 (n : Int), .slice A2 l.length c2, .int .i64 z, .int .i64 200, .int .i64 200, .slice M2 1 cm2]
      rw [hW6]
      obtain ⟨d0, d1, d2, d3, d4, d5⟩ := dgC k10
      have y0 := (hb6.cell (lt_of_cell y0)).trans y0
      have y1 := (hb6.cell (lt_of_cell y1)).trans y1
      have y2 := (hb6.cell (lt_of_cell y2)).trans y2
      have y3 := (hb6.cell (lt_of_cell y3)).trans y3
      have z0 := (hb6.cell (lt_of_cell z0)).trans z0
      have z1 := (hb6.cell (lt_of_cell z1)).trans z1
      have hb56 := endB hb5 hb6
      have hpr := hsw.lt
      have HS6 := Lib.hid (hs5.kept hb6)
      have Hrp6 := Lib.hid (hrpw.below hb56); have Hpo := Lib.hid (Hpow.out.below hb56)
      have Hrp2 := Lib.hid (own_rp (ownsRow_below ho hb6)); have Hrm2 := Lib.hid (own_rm (hm.below hb6)).1; have Han2 := Lib.hid (own_nil ho)
      have HA2p := Lib.hid (show ∀ b o, A2 = some ⟨b, o, none⟩ → 0 < l.length → b ≠ p from fun b o e _ => by have := own_ge ho b o e; omega)
      have HM2p := Lib.hid (show ∀ b o, M2 = some ⟨b, o, none⟩ → b ≠ p from fun b o e => by have := (own_rm hm).2 b o e; omega)
      have Hn6 := Lib.hid (Hnw.out.trans (Near.of_below (hb56.mono Hnw.out.size)))
      have hpW6 : p < W6.heap.size := by have := hb56.size; omega
      have hp5 : p ≠ w5.heap.size := by have := hb5.size; omega
      clear hW6 k10 hb6 hb5 hb56 ho hm hs5 hsw hrpw Hpow Hnw e0
      go_cut [12, 13] (fun s12 s13 wx => ∃ (qd : Nat) (R : List Mv) (A3 : Option Addr) (c3 : Nat) (M3 : Option Addr) (cm3 : Nat), s12 = Value.pointer (some ⟨qd, 0, none⟩) ∧ s13 = Value.int .i64 0 ∧ OkM R ∧ ((endF 200 200 l R).2 = 4 ∨ (endF 200 200 l R).1 = 1) ∧ R.length ≤ 200 ∧ W6.heap.size ≤ qd ∧ Blk wx qd 37 #[.int .i64 (n : Int), .slice A3 l.length c3, .int .i64 z, .int .i64 200, .int .i64 200, .slice M3 R.length cm3] ∧ RP wx A3 l ∧ RM wx M3 R ∧ SrcOk wx p ∧ Near p W6.heap.size W6 wx)
      case first =>
        refine wp_region_tree [4, 6, 7, 11, 12] (fun w' => Near p W6.heap.size W6 w') (fun w' => SrcOk w' p ∧ BxD none W6.heap.size w') 14 [0, 1, 2, 3, 4, 5, 6, 7, 8, 9, 10, 11, 12, 13] (by rfl) (by decide) (by kernel_rfl) (by kernel_rfl) (Near.of_below (Below.refl _ _).drew) ⟨HS6.out, BxD.no⟩ ?_
        refine TxtT.pure 0 (by rfl) (by rw [List.getElem?_toArray]; rfl) (by rfl) (by kernel_rfl) (by rfl) ?_; apply Exists.intro; refine ⟨fun w1 hS1 => ?_, ?_⟩; (focus ((have gd0 := (near_cell hS1 (lt_of_cell d0) (by dsimp only; omega)).trans d0); (have gd1 := (near_cell hS1 (lt_of_cell d1) (by dsimp only; omega)).trans d1); (have gd2 := (near_cell hS1 (lt_of_cell d2) (by dsimp only; omega)).trans d2); (have gd3 := (near_cell hS1 (lt_of_cell d3) (by dsimp only; omega)).trans d3); (have gd4 := (near_cell hS1 (lt_of_cell d4) (by dsimp only; omega)).trans d4); (have gd5 := (near_cell hS1 (lt_of_cell d5) (by dsimp only; omega)).trans d5); go_simp; with_reducible rfl))
        rw [show List.erase [0, 1, 2, 3, 4, 5, 6, 7, 8, 9, 10, 11, 12, 13] 0 = [1, 2, 3, 4, 5, 6, 7, 8, 9, 10, 11, 12, 13] from rfl]; simp only [Act.put, List.setIfInBounds_toArray, List.set_cons_zero, List.set_cons_succ]
        refine TxtT.pure 1 (by rfl) (by rw [List.getElem?_toArray]; rfl) (by rfl) (by kernel_rfl) (by rfl) ?_; apply Exists.intro; refine ⟨fun w1 hS1 => ?_, ?_⟩; (focus ((have gy0 := (near_cell hS1 (lt_of_cell y0) (by dsimp only; omega)).trans y0); (have gy1 := (near_cell hS1 (lt_of_cell y1) (by dsimp only; omega)).trans y1); (have gy2 := (near_cell hS1 (lt_of_cell y2) (by dsimp only; omega)).trans y2); (have gy3 := (near_cell hS1 (lt_of_cell y3) (by dsimp only; omega)).trans y3); go_simp; with_reducible rfl))
        rw [show List.erase [1, 2, 3, 4, 5, 6, 7, 8, 9, 10, 11, 12, 13] 1 = [2, 3, 4, 5, 6, 7, 8, 9, 10, 11, 12, 13] from rfl]; simp only [Act.put, List.setIfInBounds_toArray, List.set_cons_zero, List.set_cons_succ]
        refine TxtT.pure 2 (by rfl) (by rw [List.getElem?_toArray]; rfl) (by rfl) (by kernel_rfl) (by rfl) ?_; apply Exists.intro; refine ⟨fun w1 hS1 => ?_, ?_⟩; (focus ((have gz0 := (near_cell hS1 (lt_of_cell z0) (by dsimp only; omega)).trans z0); (have gz1 := (near_cell hS1 (lt_of_cell z1) (by dsimp only; omega)).trans z1); go_simp; with_reducible rfl))
        rw [show List.erase [2, 3, 4, 5, 6, 7, 8, 9, 10, 11, 12, 13] 2 = [3, 4, 5, 6, 7, 8, 9, 10, 11, 12, 13] from rfl]; simp only [Act.put, List.setIfInBounds_toArray, List.set_cons_zero, List.set_cons_succ]
        refine TxtT.pure 3 (by rfl) (by rw [List.getElem?_toArray]; rfl) (by rfl) (by kernel_rfl) (by rfl) ?_; apply Exists.intro; refine ⟨fun w1 hS1 => ?_, ?_⟩; (focus (skip; go_simp; with_reducible rfl))
        rw [show List.erase [3, 4, 5, 6, 7, 8, 9, 10, 11, 12, 13] 3 = [4, 5, 6, 7, 8, 9, 10, 11, 12, 13] from rfl]; simp only [Act.put, List.setIfInBounds_toArray, List.set_cons_zero, List.set_cons_succ]
        refine TxtT.two 4 11 (by kernel_rfl) (by rw [List.getElem?_toArray]; rfl) (by rw [List.getElem?_toArray]; rfl) (by rfl) (by rfl) (by rfl) (by rfl) (fun u => ∃ d : Int, u = Value.int .i64 d ∧ 0 ≤ d ∧ d ≤ 2) (fun _ w' => SrcOk w' p ∧ BxD none W6.heap.size w') (fun u => ∃ q, u = Value.pointer (some ⟨q, 0, none⟩)) (fun u w' => ∃ qd, u = Value.pointer (some ⟨qd, 0, none⟩) ∧ SrcOk w' p ∧ BxD (some qd) W6.heap.size w') (fun w1 hS1 hJ1 => ?_) (fun w1 hS1 hJ1 => ?_) ?_ ?_
        · refine Eff.call (f := 8) (args := #[.pointer (some ⟨p, 0, none⟩), .int .i64 3]) (by go_simp) ((n_any p 3 w1 hJ1.1 (by omega) (by omega)).mono ?_)
          rintro e w' ⟨d, rfl, h1, h2, hs, hg⟩
          exact ⟨_, rfl, hS1.trans (Near.of_grown hg hS1.size), ⟨d, rfl, h1, by omega⟩, hs, BxD.grown hJ1.2 hg hpW6⟩
        · exact Eff.value (w' := w1.alloc (.cells #[.int .i64 0, .slice none 0 0, .int .i64 0, .int .i64 0, .int .i64 0, .slice none 0 0] 37)) (v := .pointer (some ⟨w1.heap.size, 0, none⟩)) (by go_simp) ⟨hS1.trans (Near.of_below ((newB _ _).mono hS1.size)), ⟨_, rfl⟩, _, rfl, hJ1.1.kept (newB _ _), BxD.new hS1.size⟩
        ·
          rintro _ ⟨d, rfl, hd0, hd2⟩
          rw [show List.erase [4, 5, 6, 7, 8, 9, 10, 11, 12, 13] 4 = [5, 6, 7, 8, 9, 10, 11, 12, 13] from rfl]; simp only [Act.put, List.setIfInBounds_toArray, List.set_cons_zero, List.set_cons_succ]
          refine TxtT.pure 5 (by rfl) (by rw [List.getElem?_toArray]; rfl) (by rfl) (by kernel_rfl) (by rfl) ?_; apply Exists.intro; refine ⟨fun w1 hS1 => ?_, ?_⟩; (focus ((have hw : IntKind.i64.wrap (1 + d) = 1 + d := by rw [IntKind.wrap_i64]; omega); go_simp; with_reducible rfl))
          rw [show List.erase [5, 6, 7, 8, 9, 10, 11, 12, 13] 5 = [6, 7, 8, 9, 10, 11, 12, 13] from rfl]; simp only [Act.put, List.setIfInBounds_toArray, List.set_cons_zero, List.set_cons_succ]
          obtain ⟨R, hRd⟩ : ∃ R, runG 200 200 l (inPool n l) (allI n) sty (1 + d) 200 (clm z) = R := ⟨_, rfl⟩
          have HRd := Lib.hid hRd
          clear hRd
          refine TxtT.two 6 11 (by kernel_rfl) (by rw [List.getElem?_toArray]; rfl) (by rw [List.getElem?_toArray]; rfl) (by rfl) (by rfl) (by rfl) (by rfl) (fun u => ∃ P2 pc2, u = Value.agg #[.slice P2 (allI n).length pc2, .slice none 0 0, .slice none 0 0, .int .i64 (1 + d)]) (fun u w' => SrcOk w' p ∧ BxD none W6.heap.size w' ∧ ∀ P2 pc2, u = Value.agg #[.slice P2 (allI n).length pc2, .slice none 0 0, .slice none 0 0, .int .i64 (1 + d)] → RI w' P2 (allI n)) (fun u => ∃ q, u = Value.pointer (some ⟨q, 0, none⟩)) (fun u w' => ∃ qd, u = Value.pointer (some ⟨qd, 0, none⟩) ∧ SrcOk w' p ∧ BxD (some qd) W6.heap.size w') (fun w1 hS1 hJ1 => ?_) (fun w1 hS1 hJ1 => ?_) ?_ ?_
          · refine Eff.call (f := 7) (args := #[.agg #[.int .i64 (n : Int), .slice AL l.length cl], .int .i64 (1 + d)]) (by go_simp) ((full_any AL n l cl (1 + d) w1 (Hrp6.out.grownQ hS1.grown HAp.out) HV.out).mono ?_)
            rintro e w' ⟨P2, pc2, rfl, ho, hb⟩
            refine ⟨_, rfl, hS1.trans (Near.of_below (hb.mono hS1.size)), ⟨P2, pc2, rfl⟩, hJ1.1.kept hb, BxD.below hJ1.2 hb, fun P' pc' e => ?_⟩
            have e1 := pvW_inj (pc := pc2) (pc' := pc') e
            rw [← e1]; exact own_ri ho
          · exact Eff.value (w' := w1.alloc (.cells #[.int .i64 0, .slice none 0 0, .int .i64 0, .int .i64 0, .int .i64 0, .slice none 0 0] 37)) (v := .pointer (some ⟨w1.heap.size, 0, none⟩)) (by go_simp) ⟨hS1.trans (Near.of_below ((newB _ _).mono hS1.size)), ⟨_, rfl⟩, _, rfl, hJ1.1.kept (newB _ _), BxD.new hS1.size⟩
          ·
            rintro _ ⟨P2, pc2, rfl⟩
            rw [show List.erase [6, 7, 8, 9, 10, 11, 12, 13] 6 = [7, 8, 9, 10, 11, 12, 13] from rfl]; simp only [Act.put, List.setIfInBounds_toArray, List.set_cons_zero, List.set_cons_succ]
            refine TxtT.weakJ (J2 := (fun w' => SrcOk w' p ∧ BxD none W6.heap.size w' ∧ RI w' P2 (allI n))) (fun w1 h => ⟨h.1, h.2.1, h.2.2 _ _ rfl⟩) ?_
            refine TxtT.two 7 11 (by kernel_rfl) (by rw [List.getElem?_toArray]; rfl) (by rw [List.getElem?_toArray]; rfl) (by rfl) (by rfl) (by rfl) (by rfl) (fun u => ∃ A3 c3 M3 cm3, u = Value.tuple #[.agg #[.int .i64 (n : Int), .slice A3 l.length c3, .int .i64 z, .int .i64 200, .int .i64 200, .slice M3 R.length cm3], .int .i64 0]) (fun u w' => SrcOk w' p ∧ BxD none W6.heap.size w' ∧ ∀ A3 c3 M3 cm3, u = Value.tuple #[.agg #[.int .i64 (n : Int), .slice A3 l.length c3, .int .i64 z, .int .i64 200, .int .i64 200, .slice M3 R.length cm3], .int .i64 0] → RP w' A3 l ∧ RM w' M3 R ∧ (∀ b x, A3 = some ⟨b, x, none⟩ → ∀ qq, (none : Option Nat) = some qq → b ≠ qq) ∧ (∀ b x, M3 = some ⟨b, x, none⟩ → ∀ qq, (none : Option Nat) = some qq → b ≠ qq) ∧ (∀ b x, A3 = some ⟨b, x, none⟩ → b < w'.heap.size) ∧ (∀ b x, M3 = some ⟨b, x, none⟩ → b < w'.heap.size)) (fun u => ∃ q, u = Value.pointer (some ⟨q, 0, none⟩)) (fun u w' => ∃ qd, u = Value.pointer (some ⟨qd, 0, none⟩) ∧ SrcOk w' p ∧ BxD (some qd) W6.heap.size w' ∧ RI w' P2 (allI n)) (fun w1 hS1 hJ1 => ?_) (fun w1 hS1 hJ1 => ?_) ?_ ?_
            · refine Eff.call (f := 10) (args := #[.agg #[.int .i64 (n : Int), .slice A2 l.length c2, .int .i64 z, .int .i64 200, .int .i64 200, .slice M2 1 cm2], .agg #[.slice (some ⟨b, o, none⟩) (inPool n l).length pc, .slice none 0 0, .slice none 0 0, .int .i64 sty], .agg #[.slice P2 (allI n).length pc2, .slice none 0 0, .slice none 0 0, .int .i64 (1 + d)]]) (by go_simp) ((run_any n A2 l c2 z 200 200 M2 (clm z) cm2 (some ⟨b, o, none⟩) (inPool n l) pc sty P2 (allI n) pc2 (1 + d) w1 (Hrp2.out.grownQ hS1.grown HA2p.out) Han2.out HV.out.1 hll (Hrm2.out.grown hS1.grown HM2p.out) (clm_ok z) (by rw [clm_len]; omega) (Hpo.out.grown hS1.grown HPp.out) Hpl.out Hasc.out hs1 hs3 hJ1.2.2 (by rw [allI_len]; omega) (allI_asc n) (by omega) (by omega)).mono ?_)
              rw [HRd.out]
              rintro e w' ⟨A3, c3, M3, cm3, rfl, ho, hm, hb⟩
              refine ⟨_, rfl, hS1.trans (Near.of_below (hb.mono hS1.size)), ⟨A3, c3, M3, cm3, rfl⟩, hJ1.1.kept hb, BxD.below hJ1.2.1 hb, fun A' c' M' cm' e => ?_⟩
              obtain ⟨e1, e2⟩ := tvW_inj (c := c3) (c' := c') (cm := cm3) (cm' := cm') e
              rw [← e1, ← e2]; exact ⟨own_rp ho, (own_rm hm).1, fun b x eb q eq => by have h1 := own_ge ho b x eb; have h2 := (hJ1.2.1 q eq).2.lt; omega, fun b x eb q eq => by have h1 := (own_rm hm).2 b x eb; have h2 := (hJ1.2.1 q eq).2.lt; omega, fun b x eb => (World.ownsRow.lt ho b (by rw [eb]; rfl)).2, fun b x eb => (World.ownsRow.lt hm b (by rw [eb]; rfl)).2⟩
            · exact Eff.value (w' := w1.alloc (.cells #[.int .i64 0, .slice none 0 0, .int .i64 0, .int .i64 0, .int .i64 0, .slice none 0 0] 37)) (v := .pointer (some ⟨w1.heap.size, 0, none⟩)) (by go_simp) ⟨hS1.trans (Near.of_below ((newB _ _).mono hS1.size)), ⟨_, rfl⟩, _, rfl, hJ1.1.kept (newB _ _), BxD.new hS1.size, hJ1.2.2.below (newB _ _)⟩
            ·
              rintro _ ⟨A3, c3, M3, cm3, rfl⟩
              rw [show List.erase [7, 8, 9, 10, 11, 12, 13] 7 = [8, 9, 10, 11, 12, 13] from rfl]; simp only [Act.put, List.setIfInBounds_toArray, List.set_cons_zero, List.set_cons_succ]
              refine TxtT.weakJ (J2 := (fun w' => SrcOk w' p ∧ BxD none W6.heap.size w' ∧ RP w' A3 l ∧ RM w' M3 R ∧ (∀ b x, A3 = some ⟨b, x, none⟩ → ∀ qq, (none : Option Nat) = some qq → b ≠ qq) ∧ (∀ b x, M3 = some ⟨b, x, none⟩ → ∀ qq, (none : Option Nat) = some qq → b ≠ qq) ∧ (∀ b x, A3 = some ⟨b, x, none⟩ → b < w'.heap.size) ∧ (∀ b x, M3 = some ⟨b, x, none⟩ → b < w'.heap.size))) (fun w1 h => ⟨h.1, h.2.1, h.2.2 _ _ _ _ rfl⟩) ?_
              refine TxtT.pure 8 (by rfl) (by rw [List.getElem?_toArray]; rfl) (by rfl) (by kernel_rfl) (by rfl) ?_; apply Exists.intro; refine ⟨fun w1 hS1 => ?_, ?_⟩; (focus (skip; go_simp; with_reducible rfl))
              rw [show List.erase [8, 9, 10, 11, 12, 13] 8 = [9, 10, 11, 12, 13] from rfl]; simp only [Act.put, List.setIfInBounds_toArray, List.set_cons_zero, List.set_cons_succ]
              refine TxtT.pure 9 (by rfl) (by rw [List.getElem?_toArray]; rfl) (by rfl) (by kernel_rfl) (by rfl) ?_; apply Exists.intro; refine ⟨fun w1 hS1 => ?_, ?_⟩; (focus (skip; go_simp; with_reducible rfl))
              rw [show List.erase [9, 10, 11, 12, 13] 9 = [10, 11, 12, 13] from rfl]; simp only [Act.put, List.setIfInBounds_toArray, List.set_cons_zero, List.set_cons_succ]
              refine TxtT.pure 10 (by rfl) (by rw [List.getElem?_toArray]; rfl) (by rfl) (by kernel_rfl) (by rfl) ?_; apply Exists.intro; refine ⟨fun w1 hS1 => ?_, ?_⟩; (focus (skip; go_simp; with_reducible rfl))
              rw [show List.erase [10, 11, 12, 13] 10 = [11, 12, 13] from rfl]; simp only [Act.put, List.setIfInBounds_toArray, List.set_cons_zero, List.set_cons_succ]
              refine TxtT.one 11 (by kernel_rfl) (by rw [List.getElem?_toArray]; rfl) (by rfl) (by rfl) (fun u => ∃ q, u = Value.pointer (some ⟨q, 0, none⟩)) (fun u w' => ∃ qd, u = Value.pointer (some ⟨qd, 0, none⟩) ∧ SrcOk w' p ∧ BxD (some qd) W6.heap.size w' ∧ RP w' A3 l ∧ RM w' M3 R ∧ (∀ b x, A3 = some ⟨b, x, none⟩ → ∀ qq, ((some qd) : Option Nat) = some qq → b ≠ qq) ∧ (∀ b x, M3 = some ⟨b, x, none⟩ → ∀ qq, ((some qd) : Option Nat) = some qq → b ≠ qq) ∧ (∀ b x, A3 = some ⟨b, x, none⟩ → b < w'.heap.size) ∧ (∀ b x, M3 = some ⟨b, x, none⟩ → b < w'.heap.size)) (fun w1 hS1 hJ1 => ?_) ?_
              · exact Eff.value (w' := w1.alloc (.cells #[.int .i64 0, .slice none 0 0, .int .i64 0, .int .i64 0, .int .i64 0, .slice none 0 0] 37)) (v := .pointer (some ⟨w1.heap.size, 0, none⟩)) (by go_simp) ⟨hS1.trans (Near.of_below ((newB _ _).mono hS1.size)), ⟨_, rfl⟩, _, rfl, hJ1.1.kept (newB _ _), BxD.new hS1.size, hJ1.2.2.1.below (newB _ _), hJ1.2.2.2.1.below (newB _ _), fun b x eb q eq => by injection eq with eq; have := hJ1.2.2.2.2.2.2.1 b x eb; omega, fun b x eb q eq => by injection eq with eq; have := hJ1.2.2.2.2.2.2.2 b x eb; omega, fun b x eb => by have := hJ1.2.2.2.2.2.2.1 b x eb; simp; omega, fun b x eb => by have := hJ1.2.2.2.2.2.2.2 b x eb; simp; omega⟩
              rintro _ ⟨qd, rfl⟩
              rw [show List.erase [11, 12, 13] 11 = [12, 13] from rfl]; simp only [Act.put, List.setIfInBounds_toArray, List.set_cons_zero, List.set_cons_succ]
              refine TxtT.weakJ (J2 := (fun w' => SrcOk w' p ∧ BxD (some qd) W6.heap.size w' ∧ RP w' A3 l ∧ RM w' M3 R ∧ (∀ b x, A3 = some ⟨b, x, none⟩ → ∀ qq, ((some qd) : Option Nat) = some qq → b ≠ qq) ∧ (∀ b x, M3 = some ⟨b, x, none⟩ → ∀ qq, ((some qd) : Option Nat) = some qq → b ≠ qq) ∧ (∀ b x, A3 = some ⟨b, x, none⟩ → b < w'.heap.size) ∧ (∀ b x, M3 = some ⟨b, x, none⟩ → b < w'.heap.size))) (fun w1 h => by obtain ⟨q', hq, h⟩ := h; injection hq with hq; injection hq with hq; injection hq with hq _ _; subst hq; exact h) ?_
              refine TxtT.one 12 (by kernel_rfl) (by rw [List.getElem?_toArray]; rfl) (by rfl) (by rfl) (fun v => v = undef) (fun _ w' => W6.heap.size ≤ qd ∧ Blk w' qd 37 #[.int .i64 (n : Int), .slice A3 l.length c3, .int .i64 z, .int .i64 200, .int .i64 200, .slice M3 R.length cm3] ∧ RP w' A3 l ∧ RM w' M3 R ∧ SrcOk w' p) (fun w1 hS1 hJ1 => ?_) ?_
              · obtain ⟨hq, hk⟩ := hJ1.2.1 qd rfl
                obtain ⟨g0, g1, g2, g3, g4, g5⟩ := dgC hk
                obtain ⟨f0, f1, f2, f3, f4, f5⟩ := dgF hk
                have hN := near_set6 (Near.refl qd w1.heap.size w1) (.int .i64 (n : Int)) (.slice A3 l.length c3) (.int .i64 z) (.int .i64 200) (.int .i64 200) (.slice M3 R.length cm3)
                exact Eff.skip (w' := (((((w1.setCell ⟨qd, 0, none⟩ (.int .i64 (n : Int))).setCell ⟨qd, 1, none⟩ (.slice A3 l.length c3)).setCell ⟨qd, 2, none⟩ (.int .i64 z)).setCell ⟨qd, 3, none⟩ (.int .i64 200)).setCell ⟨qd, 4, none⟩ (.int .i64 200)).setCell ⟨qd, 5, none⟩ (.slice M3 R.length cm3)) (by go_simp) ⟨near_set6o hS1 hq .., rfl, hq, set6 hk .., hJ1.2.2.1.grownQ hN.grown (fun b o e _ => hJ1.2.2.2.2.1 b o e qd rfl), hJ1.2.2.2.1.grown hN.grown (fun b o e => hJ1.2.2.2.2.2.1 b o e qd rfl), src_set6 hJ1.1 (by omega) ..⟩
              rintro _ rfl
              rw [show List.erase [12, 13] 12 = [13] from rfl]; simp only [Act.put]
              refine TxtT.pure 13 (by rfl) (by rw [List.getElem?_toArray]; rfl) (by rfl) (by kernel_rfl) (by rfl) ?_; apply Exists.intro; refine ⟨fun w1 hS1 => ?_, ?_⟩; (focus (skip; go_simp; with_reducible rfl))
              rw [show List.erase [13] 13 = [] from rfl]; simp only [Act.put, List.setIfInBounds_toArray, List.set_cons_zero, List.set_cons_succ]
              refine ⟨rfl, fun w1 hS1 hJ1 => ?_⟩
              have hwr := with_run (p2 := allI n) (s1 := sty) (s2 := 1 + d) HV.out.1 Hz.out
              rw [HRd.out] at hwr
              have hlr : R.length ≤ 200 := by rw [← HRd.out]; exact runG_len 200 (clm z) (by rw [clm_len]; omega)
              go_wp2_with fail
              go_meet
              exact ⟨qd, R, A3, c3, M3, cm3, rfl, rfl, hwr.1, hwr.2, hlr, hJ1.1, hJ1.2.1, hJ1.2.2.1, hJ1.2.2.2.1, hJ1.2.2.2.2, hS1⟩
            ·
              rintro _ ⟨qd, rfl⟩
              rw [show List.erase [7, 8, 9, 10, 11, 12, 13] 11 = [7, 8, 9, 10, 12, 13] from rfl]; simp only [Act.put, List.setIfInBounds_toArray, List.set_cons_zero, List.set_cons_succ]
              refine TxtT.weakJ (J2 := (fun w' => SrcOk w' p ∧ BxD (some qd) W6.heap.size w' ∧ RI w' P2 (allI n))) (fun w1 h => by obtain ⟨q', hq, h⟩ := h; injection hq with hq; injection hq with hq; injection hq with hq _ _; subst hq; exact h) ?_
              refine TxtT.one 7 (by kernel_rfl) (by rw [List.getElem?_toArray]; rfl) (by rfl) (by rfl) (fun u => ∃ A3 c3 M3 cm3, u = Value.tuple #[.agg #[.int .i64 (n : Int), .slice A3 l.length c3, .int .i64 z, .int .i64 200, .int .i64 200, .slice M3 R.length cm3], .int .i64 0]) (fun u w' => SrcOk w' p ∧ BxD (some qd) W6.heap.size w' ∧ ∀ A3 c3 M3 cm3, u = Value.tuple #[.agg #[.int .i64 (n : Int), .slice A3 l.length c3, .int .i64 z, .int .i64 200, .int .i64 200, .slice M3 R.length cm3], .int .i64 0] → RP w' A3 l ∧ RM w' M3 R ∧ (∀ b x, A3 = some ⟨b, x, none⟩ → ∀ qq, ((some qd) : Option Nat) = some qq → b ≠ qq) ∧ (∀ b x, M3 = some ⟨b, x, none⟩ → ∀ qq, ((some qd) : Option Nat) = some qq → b ≠ qq) ∧ (∀ b x, A3 = some ⟨b, x, none⟩ → b < w'.heap.size) ∧ (∀ b x, M3 = some ⟨b, x, none⟩ → b < w'.heap.size)) (fun w1 hS1 hJ1 => ?_) ?_
              · refine Eff.call (f := 10) (args := #[.agg #[.int .i64 (n : Int), .slice A2 l.length c2, .int .i64 z, .int .i64 200, .int .i64 200, .slice M2 1 cm2], .agg #[.slice (some ⟨b, o, none⟩) (inPool n l).length pc, .slice none 0 0, .slice none 0 0, .int .i64 sty], .agg #[.slice P2 (allI n).length pc2, .slice none 0 0, .slice none 0 0, .int .i64 (1 + d)]]) (by go_simp) ((run_any n A2 l c2 z 200 200 M2 (clm z) cm2 (some ⟨b, o, none⟩) (inPool n l) pc sty P2 (allI n) pc2 (1 + d) w1 (Hrp2.out.grownQ hS1.grown HA2p.out) Han2.out HV.out.1 hll (Hrm2.out.grown hS1.grown HM2p.out) (clm_ok z) (by rw [clm_len]; omega) (Hpo.out.grown hS1.grown HPp.out) Hpl.out Hasc.out hs1 hs3 hJ1.2.2 (by rw [allI_len]; omega) (allI_asc n) (by omega) (by omega)).mono ?_)
                rw [HRd.out]
                rintro e w' ⟨A3, c3, M3, cm3, rfl, ho, hm, hb⟩
                refine ⟨_, rfl, hS1.trans (Near.of_below (hb.mono hS1.size)), ⟨A3, c3, M3, cm3, rfl⟩, hJ1.1.kept hb, BxD.below hJ1.2.1 hb, fun A' c' M' cm' e => ?_⟩
                obtain ⟨e1, e2⟩ := tvW_inj (c := c3) (c' := c') (cm := cm3) (cm' := cm') e
                rw [← e1, ← e2]; exact ⟨own_rp ho, (own_rm hm).1, fun b x eb q eq => by have h1 := own_ge ho b x eb; have h2 := (hJ1.2.1 q eq).2.lt; omega, fun b x eb q eq => by have h1 := (own_rm hm).2 b x eb; have h2 := (hJ1.2.1 q eq).2.lt; omega, fun b x eb => (World.ownsRow.lt ho b (by rw [eb]; rfl)).2, fun b x eb => (World.ownsRow.lt hm b (by rw [eb]; rfl)).2⟩
              rintro _ ⟨A3, c3, M3, cm3, rfl⟩
              rw [show List.erase [7, 8, 9, 10, 12, 13] 7 = [8, 9, 10, 12, 13] from rfl]; simp only [Act.put, List.setIfInBounds_toArray, List.set_cons_zero, List.set_cons_succ]
              refine TxtT.weakJ (J2 := (fun w' => SrcOk w' p ∧ BxD (some qd) W6.heap.size w' ∧ RP w' A3 l ∧ RM w' M3 R ∧ (∀ b x, A3 = some ⟨b, x, none⟩ → ∀ qq, ((some qd) : Option Nat) = some qq → b ≠ qq) ∧ (∀ b x, M3 = some ⟨b, x, none⟩ → ∀ qq, ((some qd) : Option Nat) = some qq → b ≠ qq) ∧ (∀ b x, A3 = some ⟨b, x, none⟩ → b < w'.heap.size) ∧ (∀ b x, M3 = some ⟨b, x, none⟩ → b < w'.heap.size))) (fun w1 h => ⟨h.1, h.2.1, h.2.2 _ _ _ _ rfl⟩) ?_
              refine TxtT.pure 8 (by rfl) (by rw [List.getElem?_toArray]; rfl) (by rfl) (by kernel_rfl) (by rfl) ?_; apply Exists.intro; refine ⟨fun w1 hS1 => ?_, ?_⟩; (focus (skip; go_simp; with_reducible rfl))
              rw [show List.erase [8, 9, 10, 12, 13] 8 = [9, 10, 12, 13] from rfl]; simp only [Act.put, List.setIfInBounds_toArray, List.set_cons_zero, List.set_cons_succ]
              refine TxtT.pure 9 (by rfl) (by rw [List.getElem?_toArray]; rfl) (by rfl) (by kernel_rfl) (by rfl) ?_; apply Exists.intro; refine ⟨fun w1 hS1 => ?_, ?_⟩; (focus (skip; go_simp; with_reducible rfl))
              rw [show List.erase [9, 10, 12, 13] 9 = [10, 12, 13] from rfl]; simp only [Act.put, List.setIfInBounds_toArray, List.set_cons_zero, List.set_cons_succ]
              refine TxtT.pure 10 (by rfl) (by rw [List.getElem?_toArray]; rfl) (by rfl) (by kernel_rfl) (by rfl) ?_; apply Exists.intro; refine ⟨fun w1 hS1 => ?_, ?_⟩; (focus (skip; go_simp; with_reducible rfl))
              rw [show List.erase [10, 12, 13] 10 = [12, 13] from rfl]; simp only [Act.put, List.setIfInBounds_toArray, List.set_cons_zero, List.set_cons_succ]
              refine TxtT.one 12 (by kernel_rfl) (by rw [List.getElem?_toArray]; rfl) (by rfl) (by rfl) (fun v => v = undef) (fun _ w' => W6.heap.size ≤ qd ∧ Blk w' qd 37 #[.int .i64 (n : Int), .slice A3 l.length c3, .int .i64 z, .int .i64 200, .int .i64 200, .slice M3 R.length cm3] ∧ RP w' A3 l ∧ RM w' M3 R ∧ SrcOk w' p) (fun w1 hS1 hJ1 => ?_) ?_
              · obtain ⟨hq, hk⟩ := hJ1.2.1 qd rfl
                obtain ⟨g0, g1, g2, g3, g4, g5⟩ := dgC hk
                obtain ⟨f0, f1, f2, f3, f4, f5⟩ := dgF hk
                have hN := near_set6 (Near.refl qd w1.heap.size w1) (.int .i64 (n : Int)) (.slice A3 l.length c3) (.int .i64 z) (.int .i64 200) (.int .i64 200) (.slice M3 R.length cm3)
                exact Eff.skip (w' := (((((w1.setCell ⟨qd, 0, none⟩ (.int .i64 (n : Int))).setCell ⟨qd, 1, none⟩ (.slice A3 l.length c3)).setCell ⟨qd, 2, none⟩ (.int .i64 z)).setCell ⟨qd, 3, none⟩ (.int .i64 200)).setCell ⟨qd, 4, none⟩ (.int .i64 200)).setCell ⟨qd, 5, none⟩ (.slice M3 R.length cm3)) (by go_simp) ⟨near_set6o hS1 hq .., rfl, hq, set6 hk .., hJ1.2.2.1.grownQ hN.grown (fun b o e _ => hJ1.2.2.2.2.1 b o e qd rfl), hJ1.2.2.2.1.grown hN.grown (fun b o e => hJ1.2.2.2.2.2.1 b o e qd rfl), src_set6 hJ1.1 (by omega) ..⟩
              rintro _ rfl
              rw [show List.erase [12, 13] 12 = [13] from rfl]; simp only [Act.put]
              refine TxtT.pure 13 (by rfl) (by rw [List.getElem?_toArray]; rfl) (by rfl) (by kernel_rfl) (by rfl) ?_; apply Exists.intro; refine ⟨fun w1 hS1 => ?_, ?_⟩; (focus (skip; go_simp; with_reducible rfl))
              rw [show List.erase [13] 13 = [] from rfl]; simp only [Act.put, List.setIfInBounds_toArray, List.set_cons_zero, List.set_cons_succ]
              refine ⟨rfl, fun w1 hS1 hJ1 => ?_⟩
              have hwr := with_run (p2 := allI n) (s1 := sty) (s2 := 1 + d) HV.out.1 Hz.out
              rw [HRd.out] at hwr
              have hlr : R.length ≤ 200 := by rw [← HRd.out]; exact runG_len 200 (clm z) (by rw [clm_len]; omega)
              go_wp2_with fail
              go_meet
              exact ⟨qd, R, A3, c3, M3, cm3, rfl, rfl, hwr.1, hwr.2, hlr, hJ1.1, hJ1.2.1, hJ1.2.2.1, hJ1.2.2.2.1, hJ1.2.2.2.2, hS1⟩
          ·
            rintro _ ⟨qd, rfl⟩
            rw [show List.erase [6, 7, 8, 9, 10, 11, 12, 13] 11 = [6, 7, 8, 9, 10, 12, 13] from rfl]; simp only [Act.put, List.setIfInBounds_toArray, List.set_cons_zero, List.set_cons_succ]
            refine TxtT.weakJ (J2 := (fun w' => SrcOk w' p ∧ BxD (some qd) W6.heap.size w')) (fun w1 h => by obtain ⟨q', hq, h⟩ := h; injection hq with hq; injection hq with hq; injection hq with hq _ _; subst hq; exact h) ?_
            refine TxtT.one 6 (by kernel_rfl) (by rw [List.getElem?_toArray]; rfl) (by rfl) (by rfl) (fun u => ∃ P2 pc2, u = Value.agg #[.slice P2 (allI n).length pc2, .slice none 0 0, .slice none 0 0, .int .i64 (1 + d)]) (fun u w' => SrcOk w' p ∧ BxD (some qd) W6.heap.size w' ∧ ∀ P2 pc2, u = Value.agg #[.slice P2 (allI n).length pc2, .slice none 0 0, .slice none 0 0, .int .i64 (1 + d)] → RI w' P2 (allI n)) (fun w1 hS1 hJ1 => ?_) ?_
            · refine Eff.call (f := 7) (args := #[.agg #[.int .i64 (n : Int), .slice AL l.length cl], .int .i64 (1 + d)]) (by go_simp) ((full_any AL n l cl (1 + d) w1 (Hrp6.out.grownQ hS1.grown HAp.out) HV.out).mono ?_)
              rintro e w' ⟨P2, pc2, rfl, ho, hb⟩
              refine ⟨_, rfl, hS1.trans (Near.of_below (hb.mono hS1.size)), ⟨P2, pc2, rfl⟩, hJ1.1.kept hb, BxD.below hJ1.2 hb, fun P' pc' e => ?_⟩
              have e1 := pvW_inj (pc := pc2) (pc' := pc') e
              rw [← e1]; exact own_ri ho
            rintro _ ⟨P2, pc2, rfl⟩
            rw [show List.erase [6, 7, 8, 9, 10, 12, 13] 6 = [7, 8, 9, 10, 12, 13] from rfl]; simp only [Act.put, List.setIfInBounds_toArray, List.set_cons_zero, List.set_cons_succ]
            refine TxtT.weakJ (J2 := (fun w' => SrcOk w' p ∧ BxD (some qd) W6.heap.size w' ∧ RI w' P2 (allI n))) (fun w1 h => ⟨h.1, h.2.1, h.2.2 _ _ rfl⟩) ?_
            refine TxtT.one 7 (by kernel_rfl) (by rw [List.getElem?_toArray]; rfl) (by rfl) (by rfl) (fun u => ∃ A3 c3 M3 cm3, u = Value.tuple #[.agg #[.int .i64 (n : Int), .slice A3 l.length c3, .int .i64 z, .int .i64 200, .int .i64 200, .slice M3 R.length cm3], .int .i64 0]) (fun u w' => SrcOk w' p ∧ BxD (some qd) W6.heap.size w' ∧ ∀ A3 c3 M3 cm3, u = Value.tuple #[.agg #[.int .i64 (n : Int), .slice A3 l.length c3, .int .i64 z, .int .i64 200, .int .i64 200, .slice M3 R.length cm3], .int .i64 0] → RP w' A3 l ∧ RM w' M3 R ∧ (∀ b x, A3 = some ⟨b, x, none⟩ → ∀ qq, ((some qd) : Option Nat) = some qq → b ≠ qq) ∧ (∀ b x, M3 = some ⟨b, x, none⟩ → ∀ qq, ((some qd) : Option Nat) = some qq → b ≠ qq) ∧ (∀ b x, A3 = some ⟨b, x, none⟩ → b < w'.heap.size) ∧ (∀ b x, M3 = some ⟨b, x, none⟩ → b < w'.heap.size)) (fun w1 hS1 hJ1 => ?_) ?_
            · refine Eff.call (f := 10) (args := #[.agg #[.int .i64 (n : Int), .slice A2 l.length c2, .int .i64 z, .int .i64 200, .int .i64 200, .slice M2 1 cm2], .agg #[.slice (some ⟨b, o, none⟩) (inPool n l).length pc, .slice none 0 0, .slice none 0 0, .int .i64 sty], .agg #[.slice P2 (allI n).length pc2, .slice none 0 0, .slice none 0 0, .int .i64 (1 + d)]]) (by go_simp) ((run_any n A2 l c2 z 200 200 M2 (clm z) cm2 (some ⟨b, o, none⟩) (inPool n l) pc sty P2 (allI n) pc2 (1 + d) w1 (Hrp2.out.grownQ hS1.grown HA2p.out) Han2.out HV.out.1 hll (Hrm2.out.grown hS1.grown HM2p.out) (clm_ok z) (by rw [clm_len]; omega) (Hpo.out.grown hS1.grown HPp.out) Hpl.out Hasc.out hs1 hs3 hJ1.2.2 (by rw [allI_len]; omega) (allI_asc n) (by omega) (by omega)).mono ?_)
              rw [HRd.out]
              rintro e w' ⟨A3, c3, M3, cm3, rfl, ho, hm, hb⟩
              refine ⟨_, rfl, hS1.trans (Near.of_below (hb.mono hS1.size)), ⟨A3, c3, M3, cm3, rfl⟩, hJ1.1.kept hb, BxD.below hJ1.2.1 hb, fun A' c' M' cm' e => ?_⟩
              obtain ⟨e1, e2⟩ := tvW_inj (c := c3) (c' := c') (cm := cm3) (cm' := cm') e
              rw [← e1, ← e2]; exact ⟨own_rp ho, (own_rm hm).1, fun b x eb q eq => by have h1 := own_ge ho b x eb; have h2 := (hJ1.2.1 q eq).2.lt; omega, fun b x eb q eq => by have h1 := (own_rm hm).2 b x eb; have h2 := (hJ1.2.1 q eq).2.lt; omega, fun b x eb => (World.ownsRow.lt ho b (by rw [eb]; rfl)).2, fun b x eb => (World.ownsRow.lt hm b (by rw [eb]; rfl)).2⟩
            rintro _ ⟨A3, c3, M3, cm3, rfl⟩
            rw [show List.erase [7, 8, 9, 10, 12, 13] 7 = [8, 9, 10, 12, 13] from rfl]; simp only [Act.put, List.setIfInBounds_toArray, List.set_cons_zero, List.set_cons_succ]
            refine TxtT.weakJ (J2 := (fun w' => SrcOk w' p ∧ BxD (some qd) W6.heap.size w' ∧ RP w' A3 l ∧ RM w' M3 R ∧ (∀ b x, A3 = some ⟨b, x, none⟩ → ∀ qq, ((some qd) : Option Nat) = some qq → b ≠ qq) ∧ (∀ b x, M3 = some ⟨b, x, none⟩ → ∀ qq, ((some qd) : Option Nat) = some qq → b ≠ qq) ∧ (∀ b x, A3 = some ⟨b, x, none⟩ → b < w'.heap.size) ∧ (∀ b x, M3 = some ⟨b, x, none⟩ → b < w'.heap.size))) (fun w1 h => ⟨h.1, h.2.1, h.2.2 _ _ _ _ rfl⟩) ?_
            refine TxtT.pure 8 (by rfl) (by rw [List.getElem?_toArray]; rfl) (by rfl) (by kernel_rfl) (by rfl) ?_; apply Exists.intro; refine ⟨fun w1 hS1 => ?_, ?_⟩; (focus (skip; go_simp; with_reducible rfl))
            rw [show List.erase [8, 9, 10, 12, 13] 8 = [9, 10, 12, 13] from rfl]; simp only [Act.put, List.setIfInBounds_toArray, List.set_cons_zero, List.set_cons_succ]
            refine TxtT.pure 9 (by rfl) (by rw [List.getElem?_toArray]; rfl) (by rfl) (by kernel_rfl) (by rfl) ?_; apply Exists.intro; refine ⟨fun w1 hS1 => ?_, ?_⟩; (focus (skip; go_simp; with_reducible rfl))
            rw [show List.erase [9, 10, 12, 13] 9 = [10, 12, 13] from rfl]; simp only [Act.put, List.setIfInBounds_toArray, List.set_cons_zero, List.set_cons_succ]
            refine TxtT.pure 10 (by rfl) (by rw [List.getElem?_toArray]; rfl) (by rfl) (by kernel_rfl) (by rfl) ?_; apply Exists.intro; refine ⟨fun w1 hS1 => ?_, ?_⟩; (focus (skip; go_simp; with_reducible rfl))
            rw [show List.erase [10, 12, 13] 10 = [12, 13] from rfl]; simp only [Act.put, List.setIfInBounds_toArray, List.set_cons_zero, List.set_cons_succ]
            refine TxtT.one 12 (by kernel_rfl) (by rw [List.getElem?_toArray]; rfl) (by rfl) (by rfl) (fun v => v = undef) (fun _ w' => W6.heap.size ≤ qd ∧ Blk w' qd 37 #[.int .i64 (n : Int), .slice A3 l.length c3, .int .i64 z, .int .i64 200, .int .i64 200, .slice M3 R.length cm3] ∧ RP w' A3 l ∧ RM w' M3 R ∧ SrcOk w' p) (fun w1 hS1 hJ1 => ?_) ?_
            · obtain ⟨hq, hk⟩ := hJ1.2.1 qd rfl
              obtain ⟨g0, g1, g2, g3, g4, g5⟩ := dgC hk
              obtain ⟨f0, f1, f2, f3, f4, f5⟩ := dgF hk
              have hN := near_set6 (Near.refl qd w1.heap.size w1) (.int .i64 (n : Int)) (.slice A3 l.length c3) (.int .i64 z) (.int .i64 200) (.int .i64 200) (.slice M3 R.length cm3)
              exact Eff.skip (w' := (((((w1.setCell ⟨qd, 0, none⟩ (.int .i64 (n : Int))).setCell ⟨qd, 1, none⟩ (.slice A3 l.length c3)).setCell ⟨qd, 2, none⟩ (.int .i64 z)).setCell ⟨qd, 3, none⟩ (.int .i64 200)).setCell ⟨qd, 4, none⟩ (.int .i64 200)).setCell ⟨qd, 5, none⟩ (.slice M3 R.length cm3)) (by go_simp) ⟨near_set6o hS1 hq .., rfl, hq, set6 hk .., hJ1.2.2.1.grownQ hN.grown (fun b o e _ => hJ1.2.2.2.2.1 b o e qd rfl), hJ1.2.2.2.1.grown hN.grown (fun b o e => hJ1.2.2.2.2.2.1 b o e qd rfl), src_set6 hJ1.1 (by omega) ..⟩
            rintro _ rfl
            rw [show List.erase [12, 13] 12 = [13] from rfl]; simp only [Act.put]
            refine TxtT.pure 13 (by rfl) (by rw [List.getElem?_toArray]; rfl) (by rfl) (by kernel_rfl) (by rfl) ?_; apply Exists.intro; refine ⟨fun w1 hS1 => ?_, ?_⟩; (focus (skip; go_simp; with_reducible rfl))
            rw [show List.erase [13] 13 = [] from rfl]; simp only [Act.put, List.setIfInBounds_toArray, List.set_cons_zero, List.set_cons_succ]
            refine ⟨rfl, fun w1 hS1 hJ1 => ?_⟩
            have hwr := with_run (p2 := allI n) (s1 := sty) (s2 := 1 + d) HV.out.1 Hz.out
            rw [HRd.out] at hwr
            have hlr : R.length ≤ 200 := by rw [← HRd.out]; exact runG_len 200 (clm z) (by rw [clm_len]; omega)
            go_wp2_with fail
            go_meet
            exact ⟨qd, R, A3, c3, M3, cm3, rfl, rfl, hwr.1, hwr.2, hlr, hJ1.1, hJ1.2.1, hJ1.2.2.1, hJ1.2.2.2.1, hJ1.2.2.2.2, hS1⟩
        ·
          rintro _ ⟨qd, rfl⟩
          rw [show List.erase [4, 5, 6, 7, 8, 9, 10, 11, 12, 13] 11 = [4, 5, 6, 7, 8, 9, 10, 12, 13] from rfl]; simp only [Act.put, List.setIfInBounds_toArray, List.set_cons_zero, List.set_cons_succ]
          refine TxtT.weakJ (J2 := (fun w' => SrcOk w' p ∧ BxD (some qd) W6.heap.size w')) (fun w1 h => by obtain ⟨q', hq, h⟩ := h; injection hq with hq; injection hq with hq; injection hq with hq _ _; subst hq; exact h) ?_
          refine TxtT.one 4 (by kernel_rfl) (by rw [List.getElem?_toArray]; rfl) (by rfl) (by rfl) (fun u => ∃ d : Int, u = Value.int .i64 d ∧ 0 ≤ d ∧ d ≤ 2) (fun _ w' => SrcOk w' p ∧ BxD (some qd) W6.heap.size w') (fun w1 hS1 hJ1 => ?_) ?_
          · refine Eff.call (f := 8) (args := #[.pointer (some ⟨p, 0, none⟩), .int .i64 3]) (by go_simp) ((n_any p 3 w1 hJ1.1 (by omega) (by omega)).mono ?_)
            rintro e w' ⟨d, rfl, h1, h2, hs, hg⟩
            exact ⟨_, rfl, hS1.trans (Near.of_grown hg hS1.size), ⟨d, rfl, h1, by omega⟩, hs, BxD.grown hJ1.2 hg hpW6⟩
          rintro _ ⟨d, rfl, hd0, hd2⟩
          rw [show List.erase [4, 5, 6, 7, 8, 9, 10, 12, 13] 4 = [5, 6, 7, 8, 9, 10, 12, 13] from rfl]; simp only [Act.put, List.setIfInBounds_toArray, List.set_cons_zero, List.set_cons_succ]
          refine TxtT.pure 5 (by rfl) (by rw [List.getElem?_toArray]; rfl) (by rfl) (by kernel_rfl) (by rfl) ?_; apply Exists.intro; refine ⟨fun w1 hS1 => ?_, ?_⟩; (focus ((have hw : IntKind.i64.wrap (1 + d) = 1 + d := by rw [IntKind.wrap_i64]; omega); go_simp; with_reducible rfl))
          rw [show List.erase [5, 6, 7, 8, 9, 10, 12, 13] 5 = [6, 7, 8, 9, 10, 12, 13] from rfl]; simp only [Act.put, List.setIfInBounds_toArray, List.set_cons_zero, List.set_cons_succ]
          obtain ⟨R, hRd⟩ : ∃ R, runG 200 200 l (inPool n l) (allI n) sty (1 + d) 200 (clm z) = R := ⟨_, rfl⟩
          have HRd := Lib.hid hRd
          clear hRd
          refine TxtT.one 6 (by kernel_rfl) (by rw [List.getElem?_toArray]; rfl) (by rfl) (by rfl) (fun u => ∃ P2 pc2, u = Value.agg #[.slice P2 (allI n).length pc2, .slice none 0 0, .slice none 0 0, .int .i64 (1 + d)]) (fun u w' => SrcOk w' p ∧ BxD (some qd) W6.heap.size w' ∧ ∀ P2 pc2, u = Value.agg #[.slice P2 (allI n).length pc2, .slice none 0 0, .slice none 0 0, .int .i64 (1 + d)] → RI w' P2 (allI n)) (fun w1 hS1 hJ1 => ?_) ?_
          · refine Eff.call (f := 7) (args := #[.agg #[.int .i64 (n : Int), .slice AL l.length cl], .int .i64 (1 + d)]) (by go_simp) ((full_any AL n l cl (1 + d) w1 (Hrp6.out.grownQ hS1.grown HAp.out) HV.out).mono ?_)
            rintro e w' ⟨P2, pc2, rfl, ho, hb⟩
            refine ⟨_, rfl, hS1.trans (Near.of_below (hb.mono hS1.size)), ⟨P2, pc2, rfl⟩, hJ1.1.kept hb, BxD.below hJ1.2 hb, fun P' pc' e => ?_⟩
            have e1 := pvW_inj (pc := pc2) (pc' := pc') e
            rw [← e1]; exact own_ri ho
          rintro _ ⟨P2, pc2, rfl⟩
          rw [show List.erase [6, 7, 8, 9, 10, 12, 13] 6 = [7, 8, 9, 10, 12, 13] from rfl]; simp only [Act.put, List.setIfInBounds_toArray, List.set_cons_zero, List.set_cons_succ]
          refine TxtT.weakJ (J2 := (fun w' => SrcOk w' p ∧ BxD (some qd) W6.heap.size w' ∧ RI w' P2 (allI n))) (fun w1 h => ⟨h.1, h.2.1, h.2.2 _ _ rfl⟩) ?_
          refine TxtT.one 7 (by kernel_rfl) (by rw [List.getElem?_toArray]; rfl) (by rfl) (by rfl) (fun u => ∃ A3 c3 M3 cm3, u = Value.tuple #[.agg #[.int .i64 (n : Int), .slice A3 l.length c3, .int .i64 z, .int .i64 200, .int .i64 200, .slice M3 R.length cm3], .int .i64 0]) (fun u w' => SrcOk w' p ∧ BxD (some qd) W6.heap.size w' ∧ ∀ A3 c3 M3 cm3, u = Value.tuple #[.agg #[.int .i64 (n : Int), .slice A3 l.length c3, .int .i64 z, .int .i64 200, .int .i64 200, .slice M3 R.length cm3], .int .i64 0] → RP w' A3 l ∧ RM w' M3 R ∧ (∀ b x, A3 = some ⟨b, x, none⟩ → ∀ qq, ((some qd) : Option Nat) = some qq → b ≠ qq) ∧ (∀ b x, M3 = some ⟨b, x, none⟩ → ∀ qq, ((some qd) : Option Nat) = some qq → b ≠ qq) ∧ (∀ b x, A3 = some ⟨b, x, none⟩ → b < w'.heap.size) ∧ (∀ b x, M3 = some ⟨b, x, none⟩ → b < w'.heap.size)) (fun w1 hS1 hJ1 => ?_) ?_
          · refine Eff.call (f := 10) (args := #[.agg #[.int .i64 (n : Int), .slice A2 l.length c2, .int .i64 z, .int .i64 200, .int .i64 200, .slice M2 1 cm2], .agg #[.slice (some ⟨b, o, none⟩) (inPool n l).length pc, .slice none 0 0, .slice none 0 0, .int .i64 sty], .agg #[.slice P2 (allI n).length pc2, .slice none 0 0, .slice none 0 0, .int .i64 (1 + d)]]) (by go_simp) ((run_any n A2 l c2 z 200 200 M2 (clm z) cm2 (some ⟨b, o, none⟩) (inPool n l) pc sty P2 (allI n) pc2 (1 + d) w1 (Hrp2.out.grownQ hS1.grown HA2p.out) Han2.out HV.out.1 hll (Hrm2.out.grown hS1.grown HM2p.out) (clm_ok z) (by rw [clm_len]; omega) (Hpo.out.grown hS1.grown HPp.out) Hpl.out Hasc.out hs1 hs3 hJ1.2.2 (by rw [allI_len]; omega) (allI_asc n) (by omega) (by omega)).mono ?_)
            rw [HRd.out]
            rintro e w' ⟨A3, c3, M3, cm3, rfl, ho, hm, hb⟩
            refine ⟨_, rfl, hS1.trans (Near.of_below (hb.mono hS1.size)), ⟨A3, c3, M3, cm3, rfl⟩, hJ1.1.kept hb, BxD.below hJ1.2.1 hb, fun A' c' M' cm' e => ?_⟩
            obtain ⟨e1, e2⟩ := tvW_inj (c := c3) (c' := c') (cm := cm3) (cm' := cm') e
            rw [← e1, ← e2]; exact ⟨own_rp ho, (own_rm hm).1, fun b x eb q eq => by have h1 := own_ge ho b x eb; have h2 := (hJ1.2.1 q eq).2.lt; omega, fun b x eb q eq => by have h1 := (own_rm hm).2 b x eb; have h2 := (hJ1.2.1 q eq).2.lt; omega, fun b x eb => (World.ownsRow.lt ho b (by rw [eb]; rfl)).2, fun b x eb => (World.ownsRow.lt hm b (by rw [eb]; rfl)).2⟩
          rintro _ ⟨A3, c3, M3, cm3, rfl⟩
          rw [show List.erase [7, 8, 9, 10, 12, 13] 7 = [8, 9, 10, 12, 13] from rfl]; simp only [Act.put, List.setIfInBounds_toArray, List.set_cons_zero, List.set_cons_succ]
          refine TxtT.weakJ (J2 := (fun w' => SrcOk w' p ∧ BxD (some qd) W6.heap.size w' ∧ RP w' A3 l ∧ RM w' M3 R ∧ (∀ b x, A3 = some ⟨b, x, none⟩ → ∀ qq, ((some qd) : Option Nat) = some qq → b ≠ qq) ∧ (∀ b x, M3 = some ⟨b, x, none⟩ → ∀ qq, ((some qd) : Option Nat) = some qq → b ≠ qq) ∧ (∀ b x, A3 = some ⟨b, x, none⟩ → b < w'.heap.size) ∧ (∀ b x, M3 = some ⟨b, x, none⟩ → b < w'.heap.size))) (fun w1 h => ⟨h.1, h.2.1, h.2.2 _ _ _ _ rfl⟩) ?_
          refine TxtT.pure 8 (by rfl) (by rw [List.getElem?_toArray]; rfl) (by rfl) (by kernel_rfl) (by rfl) ?_; apply Exists.intro; refine ⟨fun w1 hS1 => ?_, ?_⟩; (focus (skip; go_simp; with_reducible rfl))
          rw [show List.erase [8, 9, 10, 12, 13] 8 = [9, 10, 12, 13] from rfl]; simp only [Act.put, List.setIfInBounds_toArray, List.set_cons_zero, List.set_cons_succ]
          refine TxtT.pure 9 (by rfl) (by rw [List.getElem?_toArray]; rfl) (by rfl) (by kernel_rfl) (by rfl) ?_; apply Exists.intro; refine ⟨fun w1 hS1 => ?_, ?_⟩; (focus (skip; go_simp; with_reducible rfl))
          rw [show List.erase [9, 10, 12, 13] 9 = [10, 12, 13] from rfl]; simp only [Act.put, List.setIfInBounds_toArray, List.set_cons_zero, List.set_cons_succ]
          refine TxtT.pure 10 (by rfl) (by rw [List.getElem?_toArray]; rfl) (by rfl) (by kernel_rfl) (by rfl) ?_; apply Exists.intro; refine ⟨fun w1 hS1 => ?_, ?_⟩; (focus (skip; go_simp; with_reducible rfl))
          rw [show List.erase [10, 12, 13] 10 = [12, 13] from rfl]; simp only [Act.put, List.setIfInBounds_toArray, List.set_cons_zero, List.set_cons_succ]
          refine TxtT.one 12 (by kernel_rfl) (by rw [List.getElem?_toArray]; rfl) (by rfl) (by rfl) (fun v => v = undef) (fun _ w' => W6.heap.size ≤ qd ∧ Blk w' qd 37 #[.int .i64 (n : Int), .slice A3 l.length c3, .int .i64 z, .int .i64 200, .int .i64 200, .slice M3 R.length cm3] ∧ RP w' A3 l ∧ RM w' M3 R ∧ SrcOk w' p) (fun w1 hS1 hJ1 => ?_) ?_
          · obtain ⟨hq, hk⟩ := hJ1.2.1 qd rfl
            obtain ⟨g0, g1, g2, g3, g4, g5⟩ := dgC hk
            obtain ⟨f0, f1, f2, f3, f4, f5⟩ := dgF hk
            have hN := near_set6 (Near.refl qd w1.heap.size w1) (.int .i64 (n : Int)) (.slice A3 l.length c3) (.int .i64 z) (.int .i64 200) (.int .i64 200) (.slice M3 R.length cm3)
            exact Eff.skip (w' := (((((w1.setCell ⟨qd, 0, none⟩ (.int .i64 (n : Int))).setCell ⟨qd, 1, none⟩ (.slice A3 l.length c3)).setCell ⟨qd, 2, none⟩ (.int .i64 z)).setCell ⟨qd, 3, none⟩ (.int .i64 200)).setCell ⟨qd, 4, none⟩ (.int .i64 200)).setCell ⟨qd, 5, none⟩ (.slice M3 R.length cm3)) (by go_simp) ⟨near_set6o hS1 hq .., rfl, hq, set6 hk .., hJ1.2.2.1.grownQ hN.grown (fun b o e _ => hJ1.2.2.2.2.1 b o e qd rfl), hJ1.2.2.2.1.grown hN.grown (fun b o e => hJ1.2.2.2.2.2.1 b o e qd rfl), src_set6 hJ1.1 (by omega) ..⟩
          rintro _ rfl
          rw [show List.erase [12, 13] 12 = [13] from rfl]; simp only [Act.put]
          refine TxtT.pure 13 (by rfl) (by rw [List.getElem?_toArray]; rfl) (by rfl) (by kernel_rfl) (by rfl) ?_; apply Exists.intro; refine ⟨fun w1 hS1 => ?_, ?_⟩; (focus (skip; go_simp; with_reducible rfl))
          rw [show List.erase [13] 13 = [] from rfl]; simp only [Act.put, List.setIfInBounds_toArray, List.set_cons_zero, List.set_cons_succ]
          refine ⟨rfl, fun w1 hS1 hJ1 => ?_⟩
          have hwr := with_run (p2 := allI n) (s1 := sty) (s2 := 1 + d) HV.out.1 Hz.out
          rw [HRd.out] at hwr
          have hlr : R.length ≤ 200 := by rw [← HRd.out]; exact runG_len 200 (clm z) (by rw [clm_len]; omega)
          go_wp2_with fail
          go_meet
          exact ⟨qd, R, A3, c3, M3, cm3, rfl, rfl, hwr.1, hwr.2, hlr, hJ1.1, hJ1.2.1, hJ1.2.2.1, hJ1.2.2.2.1, hJ1.2.2.2.2, hS1⟩
      obtain ⟨qd, R, A3, c3, M3, cm3, rfl, rfl, hok, hout, hlr, hqd, hkd, hr3, hm3, hs3', hn3⟩ := hcut
      clear d0 d1 d2 d3 d4 d5 y0 y1 y2 y3 z0 z1
      obtain ⟨d0, d1, d2, d3, d4, d5⟩ := dgC hkd
      have Hout := Lib.hid hout; have Hsr := Lib.hid hs3'
      have Hnn := Lib.hid (Hn6.out.trans (near_wide hn3 (show WY.heap.size ≤ W6.heap.size from Hn6.out.size)))
      clear hkd hout hs3' hn3
      go_wp2_with fail
      refine (End_any n A3 l c3 z 200 200 M3 R cm3 wc hr3 hm3 hok (by omega) hll).mono ?_
      rintro e w8 ⟨rfl, hb8⟩
      have Hs8 := Lib.hid (Hsr.out.kept hb8)
      have Hn8 := Lib.hid (Hnn.out.trans (Near.of_below (hb8.mono Hnn.out.size)))
      clear hb8 hr3 hm3 hok d0 d1 d2 d3 d4 d5
      go_upto_region 21 with fail
      obtain ⟨w9, hw9, k9, hb9, hs9⟩ := boxedA w8 43 #[.int .i64 (endF 200 200 l R).1, .int .i64 (endF 200 200 l R).2]
      rw [hw9]
      obtain ⟨x0, x1, _, _⟩ := k9.two
      have Hs9 := Lib.hid (Hs8.out.kept hb9)
      have Hn9 := Lib.hid (Hn8.out.trans (Near.of_below (hb9.mono Hn8.out.size)))
      clear hw9 k9 hb9 Hs8 Hn8
      cases h4 : ((endF 200 200 l R).2 != 4)
      · go_wp2_with fail
        have hwj := Lib.hid (show wrap64 ((j : Int) + 1) = (j : Int) + 1 by have hb1 := Hpl.out; have hb2 := Hlt.out; unfold wrap64; omega)
        go_roundw
        case rel => exact ⟨j + 1, Hlt.out, by rw [hwj.out]; rfl, Hs9.out, Hn9.out⟩
        case measure => have hb2 := Hlt.out; rw [hwj.out]; simp [intOf]; omega
      · have h5 : ((endF 200 200 l R).1 != 1) = false := by
          rcases Hout.out with h | h
          · rw [h] at h4; cases h4
          · rw [h]; rfl
        go_wp2_with fail
        have hwj := Lib.hid (show wrap64 ((j : Int) + 1) = (j : Int) + 1 by have hb1 := Hpl.out; have hb2 := Hlt.out; unfold wrap64; omega)
        go_roundw
        case rel => exact ⟨j + 1, Hlt.out, by rw [hwj.out]; rfl, Hs9.out, Hn9.out⟩
        case measure => have hb2 := Hlt.out; rw [hwj.out]; simp [intOf]; omega
end Go.Proofs.YthkknlnfdckdfaaDoor
