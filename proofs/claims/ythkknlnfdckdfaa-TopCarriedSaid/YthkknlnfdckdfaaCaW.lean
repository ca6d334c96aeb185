/- The walk of the statement TopCarried. (Printed by gen_ca.py.) -/
import Derived.Test.YthkknlnfdckdfaaCn6
import Derived.Test.YthkknlnfdckdfaaRg4
import Derived.Test.YthkknlnfdckdfaaAw30
import Derived.Test.YthkknlnfdckdfaaLov
namespace Go.Proofs.Ythkknlnfdckdfaa
open Go.ChangeShapes Go.WideShapes Go.ChangeAt Go.RowKit

theorem src_set6 {w : World} {p D : Nat} (h : SrcOk w p) (hp : p < D) (x0 x1 x2 x3 x4 x5 : Value) : SrcOk ((((((w.setCell ⟨D, 0, none⟩ x0).setCell ⟨D, 1, none⟩ x1).setCell ⟨D, 2, none⟩ x2).setCell ⟨D, 3, none⟩ x3).setCell ⟨D, 4, none⟩ x4).setCell ⟨D, 5, none⟩ x5) p := by
  have e := fun (X : World) (i : Nat) (u : Value) (h : SrcOk X p) => h.other (grownBy_setCell X D i u) (fun k hk => by injection hk with hk; omega)
  exact e _ _ _ (e _ _ _ (e _ _ _ (e _ _ _ (e _ _ _ (e _ _ _ h)))))
theorem near_set6o {p B : Nat} {a w : World} {g : Nat} (h : Near p B a w) (hg : B ≤ g) (x0 x1 x2 x3 x4 x5 : Value) : Near p B a ((((((w.setCell ⟨g, 0, none⟩ x0).setCell ⟨g, 1, none⟩ x1).setCell ⟨g, 2, none⟩ x2).setCell ⟨g, 3, none⟩ x3).setCell ⟨g, 4, none⟩ x4).setCell ⟨g, 5, none⟩ x5) :=
  (((((h.setCell (q := ⟨g, 0, none⟩) hg x0).setCell (q := ⟨g, 1, none⟩) hg x1).setCell (q := ⟨g, 2, none⟩) hg x2).setCell (q := ⟨g, 3, none⟩) hg x3).setCell (q := ⟨g, 4, none⟩) hg x4).setCell (q := ⟨g, 5, none⟩) hg x5
theorem BxD.grown {o : Option Nat} {m p : Nat} {w w' : World} (h : BxD o m w) (hg : w.grownBy w' (some p)) (hp : p < m) : BxD o m w' := fun q e =>
  ⟨(h q e).1, (h q e).2.grown hg (fun e' => by injection e' with e'; have := (h q e).1; omega)⟩
theorem own_kept {w w' : World} {b size n : Nat} {t tt : TypeId} {v : Value} {xs : List Value} {g : Nat} {cs : Array Value} (h : w.ownsRow b t size v n xs) (hg : w.grownBy w' (some g)) (hB : Blk w g tt cs) (ht : tt ≠ t) : w'.ownsRow b t size v n xs := by
  have hne := row_ne h hB ht
  refine World.ownsRow.kept h hg ?_
  cases e : v.ownBlock with
  | none => exact .inl rfl
  | some k => exact .inr fun e2 => hne (e.trans e2)
theorem own_set6c {w : World} {b size n : Nat} {t tt : TypeId} {v : Value} {xs : List Value} {g : Nat} {cs : Array Value} (h : w.ownsRow b t size v n xs) (hB : Blk w g tt cs) (ht : tt ≠ t) (x0 x1 x2 x3 x4 x5 : Value) : ((((((w.setCell ⟨g, 0, none⟩ x0).setCell ⟨g, 1, none⟩ x1).setCell ⟨g, 2, none⟩ x2).setCell ⟨g, 3, none⟩ x3).setCell ⟨g, 4, none⟩ x4).setCell ⟨g, 5, none⟩ x5).ownsRow b t size v n xs :=
  own_kept h (near_set6 (Near.refl g w.heap.size w) x0 x1 x2 x3 x4 x5).grown hB ht
theorem pvC_inj {s : Int} {P P' : Option Addr} {k pc pc' : Nat} (e : Value.agg #[.slice P k pc, .slice none 0 0, .slice none 0 0, .int .i64 s] = Value.agg #[.slice P' k pc', .slice none 0 0, .slice none 0 0, .int .i64 s]) : P = P' ∧ pc = pc' := by
  simp at e
  exact e
theorem tvC_inj {n z : Int} {A A' M M' : Option Addr} {k r c c' cm cm' : Nat} (e : Value.tuple #[.agg #[.int .i64 n, .slice A k c, .int .i64 z, .int .i64 9, .int .i64 9, .slice M r cm], .int .i64 0] = Value.tuple #[.agg #[.int .i64 n, .slice A' k c', .int .i64 z, .int .i64 9, .int .i64 9, .slice M' r cm'], .int .i64 0]) : A = A' ∧ c = c' ∧ M = M' ∧ cm = cm' := by
  simp at e
  exact ⟨e.1.1, e.1.2, e.2.1, e.2.2⟩
theorem RI.grownC {w w' : World} {A : Option Addr} {l : List Int} {p : Nat} (h : RI w A l) (hg : w.grownBy w' (some p)) (hne : ∀ b o, A = some ⟨b, o, none⟩ → b ≠ p) : RI w' A l := fun k hk => by
  obtain ⟨b, o, e, h0⟩ := h k hk
  exact ⟨b, o, e, (World.cell?_of_block (a := ⟨b, o + k, none⟩) (hg.block b (lt_of_cell h0) (fun e2 => by injection e2 with e2; exact hne b o e e2))).trans h0⟩
theorem RK.grownC {w w' : World} {A : Option Addr} {l : List Pk} {p : Nat} (h : RK w A l) (hg : w.grownBy w' (some p)) (hne : ∀ b o, A = some ⟨b, o, none⟩ → b ≠ p) : RK w' A l := fun k hk => by
  obtain ⟨b, o, e, h0, h1, h2⟩ := h k hk
  have hb : w'.heap[b]? = w.heap[b]? := hg.block b (lt_of_cell h0) (fun e2 => by injection e2 with e2; exact hne b o e e2)
  exact ⟨b, o, e, (World.cell?_of_block (a := ⟨b, _, none⟩) hb).trans h0, (World.cell?_of_block (a := ⟨b, _, none⟩) hb).trans h1, (World.cell?_of_block (a := ⟨b, _, none⟩) hb).trans h2⟩
theorem ChR.grownP {w w' : World} {c : Chn} {I : Option Addr} {ci : Nat} {R : Option Addr} {cr : Nat} {H : Option Addr} {ch : Nat} {F : Option Addr} {cf : Nat} {p : Nat} (h : ChR w c I ci R cr H ch F cf) (hG : ChG (p + 1) I R H F) (hg : w.grownBy w' (some p)) : ChR w' c I ci R cr H ch F cf :=
  ⟨h.ri.grownC hg (fun b o e => by have := hG.gi b o e; omega), h.i0, h.rr.grownC hg (fun b o e => by have := hG.gr b o e; omega), h.r0, h.rh.grownC hg (fun b o e => by have := hG.gh b o e; omega), h.h0, h.rf.grownC hg (fun b o e => by have := hG.gf b o e; omega), h.f0⟩
theorem near_wideC {p B B' : Nat} {a w : World} (h : Near p B' a w) (hB : B ≤ B') : Near p B a w := ⟨h.os, h.tape, h.output, h.size, fun k hk hn => h.block k (by omega) hn⟩
theorem RI.takeC {w : World} {A : Option Addr} {l : List Int} (h : RI w A l) (r : Nat) : RI w A (l.take r) := fun k hk => by
  rw [List.length_take] at hk
  obtain ⟨b, o, e, h0⟩ := h k (by omega)
  refine ⟨b, o, e, ?_⟩
  rw [h0, List.getD_eq_getElem?_getD, List.getD_eq_getElem?_getD, List.getElem?_take_of_lt (by omega)]
theorem rcl_at {R : List Mv} {its rc : List Int} (hi : R.map codeM = its) (hr : Pre its rc) {j : Nat} (hj : j < rc.length) : rc.getD j 0 = codeM (mv R j) ∧ j < R.length := by
  have hl : its.length = R.length := by rw [← hi, List.length_map]
  have hjR : j < R.length := by have := hr.1; omega
  refine ⟨?_, hjR⟩
  have e : rc.getD j 0 = its.getD j 0 := by
    have e0 : rc.getD j 0 = (its.take rc.length).getD j 0 := by rw [← hr.2]
    rw [e0, List.getD_eq_getElem?_getD, List.getD_eq_getElem?_getD, List.getElem?_take_of_lt hj]
  rw [e, ← hi, List.getD_eq_getElem?_getD, List.getElem?_map, List.getElem?_eq_getElem hjR, mv_at hjR]; rfl
theorem sm_mv {R : List Mv} (h : ∀ m ∈ R, SmM m) {j : Nat} (hj : j < R.length) : moveM (codeM (mv R j)) = mv R j ∧ 0 ≤ codeM (mv R j) ∧ codeM (mv R j) < 33554432 :=
  ⟨move_code (h _ (mv_mem hj)), (code_bd (h _ (mv_mem hj))).1, (code_bd (h _ (mv_mem hj))).2⟩
set_option maxRecDepth 100000 in
set_option maxHeartbeats 16000000 in
theorem carried_law_any (A : Option Addr) (arg : List Int) (c : Nat) (E : Option Addr) (evs : List (Int × Int)) (ce : Nat) (w : World)
    (hlc : arg.length ≤ c) (hc : c ≤ 9223372036854775807) (hr : RI w A arg) (hx : ∀ x ∈ arg, -9223372036854775808 ≤ x ∧ x ≤ 9223372036854775807) (hE : RP w E evs) (hev : ∀ p ∈ evs, -9223372036854775808 ≤ p.2 ∧ p.2 ≤ 9223372036854775807) :
    Calls Try.prog 3 #[.slice A arg.length c, .slice E evs.length ce] w (RetB (.bool true) w) := by
  have HE := Lib.hid hE; have Hev := Lib.hid hev
  clear hE hev
  go_enter Try.func3, Try.ntmps3
  go_wp2_with fail
  refine (new_any A arg c w hlc hc hr hx).mono ?_
  rintro e w1 ⟨p, rfl, hp, hs1, hb1⟩
  clear hr hx
  go_wp2_with fail
  refine (graph2_any p 6 w1 hs1 (by omega)).mono ?_
  rintro e w2 ⟨n, l, AL, cl, rfl, hN, hv, hrp, hloc, hs2, hg2, hAn⟩
  have hb2 : Below w.heap.size w w2 := hb1.trans (below_of_grownBy hg2 hp hb1.size)
  have hp2 := hs2.lt
  have hAp : ∀ b o, AL = some ⟨b, o, none⟩ → 0 < l.length → b ≠ p := fun b o e _ => by have := hloc b o e; have := hs1.lt; omega
  have HV := Lib.hid hv
  have hll := len_of_vld hv
  clear hs1 hb1 hg2 hv hloc
  go_upto_region 3 with fail
  obtain ⟨W0, hW, k0, hb0, hs0⟩ := boxedA w2 28 #[.int .i64 (n : Int), .slice AL l.length cl]
  rw [hW]
  obtain ⟨z0, z1, _, _⟩ := k0.two
  have HS := Lib.hid (hs2.kept hb0)
  have hs20 := hb0.size
  have Hrp := Lib.hid (hrp.below hb0)
  have HB0 := Lib.hid (endB hb2 hb0)
  have hG : p < w2.heap.size := hp2
  generalize hGe : w2.heap.size = G at *
  have HAp := Lib.hid hAp; have HAn := Lib.hid hAn; have Hp := Lib.hid hp
  clear hW k0 hb0 hs2 hrp hb2 hGe hAp hAn hp
  have hGW : G < W0.heap.size := by omega
  have hpW : p < W0.heap.size := by omega
  have hGp : G ≠ p := by omega
  clear hs0 hs20 hp2
  by_cases hn0 : n = 0
  case pos =>
    have hd : ((n : Int) == 0) = true := by rw [hn0]; rfl
    clear hn0
    as_aux_lemma =>
    go_wp2_with fail
    refine (awake30_any W0).mono ?_
    rintro e w9 ⟨rfl, hb9⟩
    have Hb := Lib.hid (endB HB0.out hb9)
    clear hb9
    go_wp2_with fail
    go_ret
    exact ⟨rfl, Hb.out⟩
  case neg =>
  have hd : ((n : Int) == 0) = false := beq_eq_false_iff_ne.2 (by omega)
  have hn1 : 1 ≤ n := by omega
  have hn6 : n ≤ 6 := by omega
  go_upto_region 5 with fail
  clear hd hn0
  go_cut [7, 8] (fun s7 s8 wx => ∃ (qd : Nat) (z : Int) (A2 : Option Addr) (c2 : Nat) (M2 : Option Addr) (cm2 : Nat), s7 = Value.pointer (some ⟨qd, 0, none⟩) ∧ s8 = Value.int .i64 0 ∧ 0 ≤ z ∧ z < (n : Int) ∧ W0.heap.size ≤ qd ∧ Blk wx qd 34 #[.int .i64 (n : Int), .slice A2 l.length c2, .int .i64 z, .int .i64 9, .int .i64 9, .slice M2 1 cm2] ∧ OwnP wx W0.heap.size (.slice A2 l.length c2) l ∧ OwnM wx W0.heap.size (.slice M2 1 cm2) (clm z) ∧ SrcOk wx p ∧ Near p W0.heap.size W0 wx)
  case first =>
    as_aux_lemma =>
    refine wp_region_tree [4, 6, 10, 11] (fun w' => Near p W0.heap.size W0 w') (fun w' => SrcOk w' p ∧ BxD none W0.heap.size w') 13 [0, 1, 2, 3, 4, 5, 6, 7, 8, 9, 10, 11, 12] (by rfl) (by decide) (by kernel_rfl) (by kernel_rfl) (Near.of_below (Below.refl _ _).drew) ⟨HS.out, BxD.no⟩ ?_
    refine TxtT.pure 0 (by rfl) (by rw [List.getElem?_toArray]; rfl) (by rfl) (by as_aux_lemma => kernel_rfl) (by rfl) ?_; apply Exists.intro; refine ⟨fun w1 hS1 => ?_, ?_⟩; (focus ((have gz0 := (near_cell hS1 (lt_of_cell z0) (by dsimp only; omega)).trans z0); (have gz1 := (near_cell hS1 (lt_of_cell z1) (by dsimp only; omega)).trans z1); go_simp; with_reducible rfl))
    rw [show List.erase [0, 1, 2, 3, 4, 5, 6, 7, 8, 9, 10, 11, 12] 0 = [1, 2, 3, 4, 5, 6, 7, 8, 9, 10, 11, 12] from rfl]; simp only [Act.put, List.setIfInBounds_toArray, List.set_cons_zero, List.set_cons_succ]
    refine TxtT.pure 1 (by rfl) (by rw [List.getElem?_toArray]; rfl) (by rfl) (by as_aux_lemma => kernel_rfl) (by rfl) ?_; apply Exists.intro; refine ⟨fun w1 hS1 => ?_, ?_⟩; (focus (skip; go_simp; with_reducible rfl))
    rw [show List.erase [1, 2, 3, 4, 5, 6, 7, 8, 9, 10, 11, 12] 1 = [2, 3, 4, 5, 6, 7, 8, 9, 10, 11, 12] from rfl]; simp only [Act.put, List.setIfInBounds_toArray, List.set_cons_zero, List.set_cons_succ]
    refine TxtT.pure 2 (by rfl) (by rw [List.getElem?_toArray]; rfl) (by rfl) (by as_aux_lemma => kernel_rfl) (by rfl) ?_; apply Exists.intro; refine ⟨fun w1 hS1 => ?_, ?_⟩; (focus ((have gz0 := (near_cell hS1 (lt_of_cell z0) (by dsimp only; omega)).trans z0); (have gz1 := (near_cell hS1 (lt_of_cell z1) (by dsimp only; omega)).trans z1); go_simp; with_reducible rfl))
    rw [show List.erase [2, 3, 4, 5, 6, 7, 8, 9, 10, 11, 12] 2 = [3, 4, 5, 6, 7, 8, 9, 10, 11, 12] from rfl]; simp only [Act.put, List.setIfInBounds_toArray, List.set_cons_zero, List.set_cons_succ]
    refine TxtT.pure 3 (by rfl) (by rw [List.getElem?_toArray]; rfl) (by rfl) (by as_aux_lemma => kernel_rfl) (by rfl) ?_; apply Exists.intro; refine ⟨fun w1 hS1 => ?_, ?_⟩; (focus ((have gz0 := (near_cell hS1 (lt_of_cell z0) (by dsimp only; omega)).trans z0); (have gz1 := (near_cell hS1 (lt_of_cell z1) (by dsimp only; omega)).trans z1); go_simp; with_reducible rfl))
    rw [show List.erase [3, 4, 5, 6, 7, 8, 9, 10, 11, 12] 3 = [4, 5, 6, 7, 8, 9, 10, 11, 12] from rfl]; simp only [Act.put, List.setIfInBounds_toArray, List.set_cons_zero, List.set_cons_succ]
    refine TxtT.pure 5 (by rfl) (by rw [List.getElem?_toArray]; rfl) (by rfl) (by as_aux_lemma => kernel_rfl) (by rfl) ?_; apply Exists.intro; refine ⟨fun w1 hS1 => ?_, ?_⟩; (focus (skip; go_simp; with_reducible rfl))
    rw [show List.erase [4, 5, 6, 7, 8, 9, 10, 11, 12] 5 = [4, 6, 7, 8, 9, 10, 11, 12] from rfl]; simp only [Act.put, List.setIfInBounds_toArray, List.set_cons_zero, List.set_cons_succ]
    refine TxtT.two 4 10 (by as_aux_lemma => kernel_rfl) (by rw [List.getElem?_toArray]; rfl) (by rw [List.getElem?_toArray]; rfl) (by rfl) (by rfl) (by rfl) (by rfl) (fun u => ∃ z : Int, u = Value.int .i64 z ∧ 0 ≤ z ∧ z < (n : Int)) (fun _ w' => SrcOk w' p ∧ BxD none W0.heap.size w') (fun u => ∃ q, u = Value.pointer (some ⟨q, 0, none⟩)) (fun u w' => ∃ qd, u = Value.pointer (some ⟨qd, 0, none⟩) ∧ SrcOk w' p ∧ BxD (some qd) W0.heap.size w') (fun w1 hS1 hJ1 => ?_) (fun w1 hS1 hJ1 => ?_) ?_ ?_
    · obtain ⟨hs0, hx0⟩ := hJ1
      refine Eff.call (f := 8) (args := #[.pointer (some ⟨p, 0, none⟩), .int .i64 (n : Int)]) (by go_simp) ((n_any p (n : Int) w1 hs0 (by omega) (by omega)).mono ?_)
      rintro e w' ⟨z, rfl, h1, h2, hs, hg⟩
      exact ⟨_, rfl, hS1.trans (Near.of_grown hg hS1.size), ⟨z, rfl, h1, by omega⟩, hs, BxD.grown hx0 hg hpW⟩
    · obtain ⟨hs0, hx0⟩ := hJ1
      exact Eff.value (w' := w1.alloc (.cells #[.int .i64 0, .slice none 0 0, .int .i64 0, .int .i64 0, .int .i64 0, .slice none 0 0] 34)) (v := .pointer (some ⟨w1.heap.size, 0, none⟩)) (by go_simp) ⟨hS1.trans (Near.of_below ((newB _ _).mono hS1.size)), ⟨_, rfl⟩, _, rfl, hs0.kept (newB _ _), BxD.new hS1.size⟩
    ·
      rintro _ ⟨z, rfl, hz0, hz1⟩
      rw [show List.erase [4, 6, 7, 8, 9, 10, 11, 12] 4 = [6, 7, 8, 9, 10, 11, 12] from rfl]; simp only [Act.put, List.setIfInBounds_toArray, List.set_cons_zero, List.set_cons_succ]
      refine TxtT.two 6 10 (by as_aux_lemma => kernel_rfl) (by rw [List.getElem?_toArray]; rfl) (by rw [List.getElem?_toArray]; rfl) (by rfl) (by rfl) (by rfl) (by rfl) (fun u => ∃ A2 c2 M2 cm2, u = Value.tuple #[.agg #[.int .i64 (n : Int), .slice A2 l.length c2, .int .i64 z, .int .i64 9, .int .i64 9, .slice M2 1 cm2], .int .i64 0]) (fun u w' => SrcOk w' p ∧ BxD none W0.heap.size w' ∧ ∃ A2 c2 M2 cm2, u = Value.tuple #[.agg #[.int .i64 (n : Int), .slice A2 l.length c2, .int .i64 z, .int .i64 9, .int .i64 9, .slice M2 1 cm2], .int .i64 0] ∧ OwnP w' W0.heap.size (.slice A2 l.length c2) l ∧ OwnM w' W0.heap.size (.slice M2 1 cm2) (clm z)) (fun u => ∃ q, u = Value.pointer (some ⟨q, 0, none⟩)) (fun u w' => ∃ qd, u = Value.pointer (some ⟨qd, 0, none⟩) ∧ SrcOk w' p ∧ BxD (some qd) W0.heap.size w') (fun w1 hS1 hJ1 => ?_) (fun w1 hS1 hJ1 => ?_) ?_ ?_
      · obtain ⟨hs0, hx0⟩ := hJ1
        refine Eff.call (f := 7) (args := #[.agg #[.int .i64 (n : Int), .slice AL l.length cl], .int .i64 z, .agg #[.int .i64 9, .int .i64 9]]) (by go_simp) ((pnew_any n AL l cl z 9 9 w1 (Hrp.out.grownQ hS1.grown HAp.out) HAn.out HV.out hz0 (by omega) (by omega) (by omega) (by omega) (by omega)).mono ?_)
        rintro e w' ⟨A2, c2, M2, cm2, rfl, ho, hm, hb⟩
        exact ⟨_, rfl, hS1.trans (Near.of_below (hb.mono hS1.size)), ⟨A2, c2, M2, cm2, rfl⟩, hs0.kept hb, BxD.below hx0 hb, A2, c2, M2, cm2, rfl, ownsRow_mono ho hS1.size, hm.mono hS1.size⟩
      · obtain ⟨hs0, hx0⟩ := hJ1
        exact Eff.value (w' := w1.alloc (.cells #[.int .i64 0, .slice none 0 0, .int .i64 0, .int .i64 0, .int .i64 0, .slice none 0 0] 34)) (v := .pointer (some ⟨w1.heap.size, 0, none⟩)) (by go_simp) ⟨hS1.trans (Near.of_below ((newB _ _).mono hS1.size)), ⟨_, rfl⟩, _, rfl, hs0.kept (newB _ _), BxD.new hS1.size⟩
      ·
        rintro _ ⟨A2, c2, M2, cm2, rfl⟩
        rw [show List.erase [6, 7, 8, 9, 10, 11, 12] 6 = [7, 8, 9, 10, 11, 12] from rfl]; simp only [Act.put, List.setIfInBounds_toArray, List.set_cons_zero, List.set_cons_succ]
        refine TxtT.weakJ (J2 := (fun w' => SrcOk w' p ∧ BxD none W0.heap.size w' ∧ OwnP w' W0.heap.size (.slice A2 l.length c2) l ∧ OwnM w' W0.heap.size (.slice M2 1 cm2) (clm z))) (fun w1 h => by
          obtain ⟨a0, a1, A2', c2', M2', cm2', e, k0, k1⟩ := h
          obtain ⟨rfl, rfl, rfl, rfl⟩ := tvC_inj e
          exact ⟨a0, a1, k0, k1⟩) ?_
        refine TxtT.pure 7 (by rfl) (by rw [List.getElem?_toArray]; rfl) (by rfl) (by as_aux_lemma => kernel_rfl) (by rfl) ?_; apply Exists.intro; refine ⟨fun w1 hS1 => ?_, ?_⟩; (focus (skip; go_simp; with_reducible rfl))
        rw [show List.erase [7, 8, 9, 10, 11, 12] 7 = [8, 9, 10, 11, 12] from rfl]; simp only [Act.put, List.setIfInBounds_toArray, List.set_cons_zero, List.set_cons_succ]
        refine TxtT.pure 8 (by rfl) (by rw [List.getElem?_toArray]; rfl) (by rfl) (by as_aux_lemma => kernel_rfl) (by rfl) ?_; apply Exists.intro; refine ⟨fun w1 hS1 => ?_, ?_⟩; (focus (skip; go_simp; with_reducible rfl))
        rw [show List.erase [8, 9, 10, 11, 12] 8 = [9, 10, 11, 12] from rfl]; simp only [Act.put, List.setIfInBounds_toArray, List.set_cons_zero, List.set_cons_succ]
        refine TxtT.pure 9 (by rfl) (by rw [List.getElem?_toArray]; rfl) (by rfl) (by as_aux_lemma => kernel_rfl) (by rfl) ?_; apply Exists.intro; refine ⟨fun w1 hS1 => ?_, ?_⟩; (focus (skip; go_simp; with_reducible rfl))
        rw [show List.erase [9, 10, 11, 12] 9 = [10, 11, 12] from rfl]; simp only [Act.put, List.setIfInBounds_toArray, List.set_cons_zero, List.set_cons_succ]
        refine TxtT.one 10 (by as_aux_lemma => kernel_rfl) (by rw [List.getElem?_toArray]; rfl) (by rfl) (by rfl) (fun u => ∃ q, u = Value.pointer (some ⟨q, 0, none⟩)) (fun u w' => ∃ qd, u = Value.pointer (some ⟨qd, 0, none⟩) ∧ SrcOk w' p ∧ BxD (some qd) W0.heap.size w' ∧ OwnP w' W0.heap.size (.slice A2 l.length c2) l ∧ OwnM w' W0.heap.size (.slice M2 1 cm2) (clm z)) (fun w1 hS1 hJ1 => ?_) ?_
        · obtain ⟨hs0, hx0, hr0, hr1⟩ := hJ1
          exact Eff.value (w' := w1.alloc (.cells #[.int .i64 0, .slice none 0 0, .int .i64 0, .int .i64 0, .int .i64 0, .slice none 0 0] 34)) (v := .pointer (some ⟨w1.heap.size, 0, none⟩)) (by go_simp) ⟨hS1.trans (Near.of_below ((newB _ _).mono hS1.size)), ⟨_, rfl⟩, _, rfl, hs0.kept (newB _ _), BxD.new hS1.size, ownsRow_below hr0 (newB _ _), ownsRow_below hr1 (newB _ _)⟩
        rintro _ ⟨qd, rfl⟩
        rw [show List.erase [10, 11, 12] 10 = [11, 12] from rfl]; simp only [Act.put, List.setIfInBounds_toArray, List.set_cons_zero, List.set_cons_succ]
        refine TxtT.weakJ (J2 := (fun w' => SrcOk w' p ∧ BxD (some qd) W0.heap.size w' ∧ OwnP w' W0.heap.size (.slice A2 l.length c2) l ∧ OwnM w' W0.heap.size (.slice M2 1 cm2) (clm z))) (fun w1 h => by obtain ⟨q', hq, h⟩ := h; injection hq with hq; injection hq with hq; injection hq with hq _ _; subst hq; exact h) ?_
        refine TxtT.one 11 (by as_aux_lemma => kernel_rfl) (by rw [List.getElem?_toArray]; rfl) (by rfl) (by rfl) (fun v => v = undef) (fun _ w' => W0.heap.size ≤ qd ∧ Blk w' qd 34 #[.int .i64 (n : Int), .slice A2 l.length c2, .int .i64 z, .int .i64 9, .int .i64 9, .slice M2 1 cm2] ∧ OwnP w' W0.heap.size (.slice A2 l.length c2) l ∧ OwnM w' W0.heap.size (.slice M2 1 cm2) (clm z) ∧ SrcOk w' p) (fun w1 hS1 hJ1 => ?_) ?_
        · obtain ⟨hs0, hx0, hr0, hr1⟩ := hJ1
          obtain ⟨hq, hk⟩ := hx0 qd rfl
          obtain ⟨g0, g1, g2, g3, g4, g5⟩ := dgC hk
          obtain ⟨f0, f1, f2, f3, f4, f5⟩ := dgF hk
          exact Eff.skip (w' := (((((w1.setCell ⟨qd, 0, none⟩ (.int .i64 (n : Int))).setCell ⟨qd, 1, none⟩ (.slice A2 l.length c2)).setCell ⟨qd, 2, none⟩ (.int .i64 z)).setCell ⟨qd, 3, none⟩ (.int .i64 9)).setCell ⟨qd, 4, none⟩ (.int .i64 9)).setCell ⟨qd, 5, none⟩ (.slice M2 1 cm2)) (by go_simp) ⟨near_set6o hS1 hq .., rfl, hq, set6 hk .., own_set6c hr0 hk (by decide) .., own_set6c hr1 hk (by decide) .., src_set6 hs0 (by omega) ..⟩
        rintro _ rfl
        rw [show List.erase [11, 12] 11 = [12] from rfl]; simp only [Act.put]
        refine TxtT.pure 12 (by rfl) (by rw [List.getElem?_toArray]; rfl) (by rfl) (by as_aux_lemma => kernel_rfl) (by rfl) ?_; apply Exists.intro; refine ⟨fun w1 hS1 => ?_, ?_⟩; (focus (skip; go_simp; with_reducible rfl))
        rw [show List.erase [12] 12 = [] from rfl]; simp only [Act.put, List.setIfInBounds_toArray, List.set_cons_zero, List.set_cons_succ]
        refine ⟨rfl, fun w1 hS1 hJ1 => ?_⟩
        go_wp2_with fail
        go_meet
        exact ⟨qd, z, A2, c2, M2, cm2, rfl, rfl, hz0, hz1, hJ1.1, hJ1.2.1, hJ1.2.2.1, hJ1.2.2.2.1, hJ1.2.2.2.2, hS1⟩
      · as_aux_lemma =>
        rintro _ ⟨qd, rfl⟩
        rw [show List.erase [6, 7, 8, 9, 10, 11, 12] 10 = [6, 7, 8, 9, 11, 12] from rfl]; simp only [Act.put, List.setIfInBounds_toArray, List.set_cons_zero, List.set_cons_succ]
        refine TxtT.weakJ (J2 := (fun w' => SrcOk w' p ∧ BxD (some qd) W0.heap.size w')) (fun w1 h => by obtain ⟨q', hq, h⟩ := h; injection hq with hq; injection hq with hq; injection hq with hq _ _; subst hq; exact h) ?_
        refine TxtT.one 6 (by as_aux_lemma => kernel_rfl) (by rw [List.getElem?_toArray]; rfl) (by rfl) (by rfl) (fun u => ∃ A2 c2 M2 cm2, u = Value.tuple #[.agg #[.int .i64 (n : Int), .slice A2 l.length c2, .int .i64 z, .int .i64 9, .int .i64 9, .slice M2 1 cm2], .int .i64 0]) (fun u w' => SrcOk w' p ∧ BxD (some qd) W0.heap.size w' ∧ ∃ A2 c2 M2 cm2, u = Value.tuple #[.agg #[.int .i64 (n : Int), .slice A2 l.length c2, .int .i64 z, .int .i64 9, .int .i64 9, .slice M2 1 cm2], .int .i64 0] ∧ OwnP w' W0.heap.size (.slice A2 l.length c2) l ∧ OwnM w' W0.heap.size (.slice M2 1 cm2) (clm z)) (fun w1 hS1 hJ1 => ?_) ?_
        · obtain ⟨hs0, hx0⟩ := hJ1
          refine Eff.call (f := 7) (args := #[.agg #[.int .i64 (n : Int), .slice AL l.length cl], .int .i64 z, .agg #[.int .i64 9, .int .i64 9]]) (by go_simp) ((pnew_any n AL l cl z 9 9 w1 (Hrp.out.grownQ hS1.grown HAp.out) HAn.out HV.out hz0 (by omega) (by omega) (by omega) (by omega) (by omega)).mono ?_)
          rintro e w' ⟨A2, c2, M2, cm2, rfl, ho, hm, hb⟩
          exact ⟨_, rfl, hS1.trans (Near.of_below (hb.mono hS1.size)), ⟨A2, c2, M2, cm2, rfl⟩, hs0.kept hb, BxD.below hx0 hb, A2, c2, M2, cm2, rfl, ownsRow_mono ho hS1.size, hm.mono hS1.size⟩
        rintro _ ⟨A2, c2, M2, cm2, rfl⟩
        rw [show List.erase [6, 7, 8, 9, 11, 12] 6 = [7, 8, 9, 11, 12] from rfl]; simp only [Act.put, List.setIfInBounds_toArray, List.set_cons_zero, List.set_cons_succ]
        refine TxtT.weakJ (J2 := (fun w' => SrcOk w' p ∧ BxD (some qd) W0.heap.size w' ∧ OwnP w' W0.heap.size (.slice A2 l.length c2) l ∧ OwnM w' W0.heap.size (.slice M2 1 cm2) (clm z))) (fun w1 h => by
          obtain ⟨a0, a1, A2', c2', M2', cm2', e, k0, k1⟩ := h
          obtain ⟨rfl, rfl, rfl, rfl⟩ := tvC_inj e
          exact ⟨a0, a1, k0, k1⟩) ?_
        refine TxtT.pure 7 (by rfl) (by rw [List.getElem?_toArray]; rfl) (by rfl) (by as_aux_lemma => kernel_rfl) (by rfl) ?_; apply Exists.intro; refine ⟨fun w1 hS1 => ?_, ?_⟩; (focus (skip; go_simp; with_reducible rfl))
        rw [show List.erase [7, 8, 9, 11, 12] 7 = [8, 9, 11, 12] from rfl]; simp only [Act.put, List.setIfInBounds_toArray, List.set_cons_zero, List.set_cons_succ]
        refine TxtT.pure 8 (by rfl) (by rw [List.getElem?_toArray]; rfl) (by rfl) (by as_aux_lemma => kernel_rfl) (by rfl) ?_; apply Exists.intro; refine ⟨fun w1 hS1 => ?_, ?_⟩; (focus (skip; go_simp; with_reducible rfl))
        rw [show List.erase [8, 9, 11, 12] 8 = [9, 11, 12] from rfl]; simp only [Act.put, List.setIfInBounds_toArray, List.set_cons_zero, List.set_cons_succ]
        refine TxtT.pure 9 (by rfl) (by rw [List.getElem?_toArray]; rfl) (by rfl) (by as_aux_lemma => kernel_rfl) (by rfl) ?_; apply Exists.intro; refine ⟨fun w1 hS1 => ?_, ?_⟩; (focus (skip; go_simp; with_reducible rfl))
        rw [show List.erase [9, 11, 12] 9 = [11, 12] from rfl]; simp only [Act.put, List.setIfInBounds_toArray, List.set_cons_zero, List.set_cons_succ]
        refine TxtT.one 11 (by as_aux_lemma => kernel_rfl) (by rw [List.getElem?_toArray]; rfl) (by rfl) (by rfl) (fun v => v = undef) (fun _ w' => W0.heap.size ≤ qd ∧ Blk w' qd 34 #[.int .i64 (n : Int), .slice A2 l.length c2, .int .i64 z, .int .i64 9, .int .i64 9, .slice M2 1 cm2] ∧ OwnP w' W0.heap.size (.slice A2 l.length c2) l ∧ OwnM w' W0.heap.size (.slice M2 1 cm2) (clm z) ∧ SrcOk w' p) (fun w1 hS1 hJ1 => ?_) ?_
        · obtain ⟨hs0, hx0, hr0, hr1⟩ := hJ1
          obtain ⟨hq, hk⟩ := hx0 qd rfl
          obtain ⟨g0, g1, g2, g3, g4, g5⟩ := dgC hk
          obtain ⟨f0, f1, f2, f3, f4, f5⟩ := dgF hk
          exact Eff.skip (w' := (((((w1.setCell ⟨qd, 0, none⟩ (.int .i64 (n : Int))).setCell ⟨qd, 1, none⟩ (.slice A2 l.length c2)).setCell ⟨qd, 2, none⟩ (.int .i64 z)).setCell ⟨qd, 3, none⟩ (.int .i64 9)).setCell ⟨qd, 4, none⟩ (.int .i64 9)).setCell ⟨qd, 5, none⟩ (.slice M2 1 cm2)) (by go_simp) ⟨near_set6o hS1 hq .., rfl, hq, set6 hk .., own_set6c hr0 hk (by decide) .., own_set6c hr1 hk (by decide) .., src_set6 hs0 (by omega) ..⟩
        rintro _ rfl
        rw [show List.erase [11, 12] 11 = [12] from rfl]; simp only [Act.put]
        refine TxtT.pure 12 (by rfl) (by rw [List.getElem?_toArray]; rfl) (by rfl) (by as_aux_lemma => kernel_rfl) (by rfl) ?_; apply Exists.intro; refine ⟨fun w1 hS1 => ?_, ?_⟩; (focus (skip; go_simp; with_reducible rfl))
        rw [show List.erase [12] 12 = [] from rfl]; simp only [Act.put, List.setIfInBounds_toArray, List.set_cons_zero, List.set_cons_succ]
        refine ⟨rfl, fun w1 hS1 hJ1 => ?_⟩
        go_wp2_with fail
        go_meet
        exact ⟨qd, z, A2, c2, M2, cm2, rfl, rfl, hz0, hz1, hJ1.1, hJ1.2.1, hJ1.2.2.1, hJ1.2.2.2.1, hJ1.2.2.2.2, hS1⟩
    · as_aux_lemma =>
      rintro _ ⟨qd, rfl⟩
      rw [show List.erase [4, 6, 7, 8, 9, 10, 11, 12] 10 = [4, 6, 7, 8, 9, 11, 12] from rfl]; simp only [Act.put, List.setIfInBounds_toArray, List.set_cons_zero, List.set_cons_succ]
      refine TxtT.weakJ (J2 := (fun w' => SrcOk w' p ∧ BxD (some qd) W0.heap.size w')) (fun w1 h => by obtain ⟨q', hq, h⟩ := h; injection hq with hq; injection hq with hq; injection hq with hq _ _; subst hq; exact h) ?_
      refine TxtT.one 4 (by as_aux_lemma => kernel_rfl) (by rw [List.getElem?_toArray]; rfl) (by rfl) (by rfl) (fun u => ∃ z : Int, u = Value.int .i64 z ∧ 0 ≤ z ∧ z < (n : Int)) (fun _ w' => SrcOk w' p ∧ BxD (some qd) W0.heap.size w') (fun w1 hS1 hJ1 => ?_) ?_
      · obtain ⟨hs0, hx0⟩ := hJ1
        refine Eff.call (f := 8) (args := #[.pointer (some ⟨p, 0, none⟩), .int .i64 (n : Int)]) (by go_simp) ((n_any p (n : Int) w1 hs0 (by omega) (by omega)).mono ?_)
        rintro e w' ⟨z, rfl, h1, h2, hs, hg⟩
        exact ⟨_, rfl, hS1.trans (Near.of_grown hg hS1.size), ⟨z, rfl, h1, by omega⟩, hs, BxD.grown hx0 hg hpW⟩
      rintro _ ⟨z, rfl, hz0, hz1⟩
      rw [show List.erase [4, 6, 7, 8, 9, 11, 12] 4 = [6, 7, 8, 9, 11, 12] from rfl]; simp only [Act.put, List.setIfInBounds_toArray, List.set_cons_zero, List.set_cons_succ]
      refine TxtT.one 6 (by as_aux_lemma => kernel_rfl) (by rw [List.getElem?_toArray]; rfl) (by rfl) (by rfl) (fun u => ∃ A2 c2 M2 cm2, u = Value.tuple #[.agg #[.int .i64 (n : Int), .slice A2 l.length c2, .int .i64 z, .int .i64 9, .int .i64 9, .slice M2 1 cm2], .int .i64 0]) (fun u w' => SrcOk w' p ∧ BxD (some qd) W0.heap.size w' ∧ ∃ A2 c2 M2 cm2, u = Value.tuple #[.agg #[.int .i64 (n : Int), .slice A2 l.length c2, .int .i64 z, .int .i64 9, .int .i64 9, .slice M2 1 cm2], .int .i64 0] ∧ OwnP w' W0.heap.size (.slice A2 l.length c2) l ∧ OwnM w' W0.heap.size (.slice M2 1 cm2) (clm z)) (fun w1 hS1 hJ1 => ?_) ?_
      · obtain ⟨hs0, hx0⟩ := hJ1
        refine Eff.call (f := 7) (args := #[.agg #[.int .i64 (n : Int), .slice AL l.length cl], .int .i64 z, .agg #[.int .i64 9, .int .i64 9]]) (by go_simp) ((pnew_any n AL l cl z 9 9 w1 (Hrp.out.grownQ hS1.grown HAp.out) HAn.out HV.out hz0 (by omega) (by omega) (by omega) (by omega) (by omega)).mono ?_)
        rintro e w' ⟨A2, c2, M2, cm2, rfl, ho, hm, hb⟩
        exact ⟨_, rfl, hS1.trans (Near.of_below (hb.mono hS1.size)), ⟨A2, c2, M2, cm2, rfl⟩, hs0.kept hb, BxD.below hx0 hb, A2, c2, M2, cm2, rfl, ownsRow_mono ho hS1.size, hm.mono hS1.size⟩
      rintro _ ⟨A2, c2, M2, cm2, rfl⟩
      rw [show List.erase [6, 7, 8, 9, 11, 12] 6 = [7, 8, 9, 11, 12] from rfl]; simp only [Act.put, List.setIfInBounds_toArray, List.set_cons_zero, List.set_cons_succ]
      refine TxtT.weakJ (J2 := (fun w' => SrcOk w' p ∧ BxD (some qd) W0.heap.size w' ∧ OwnP w' W0.heap.size (.slice A2 l.length c2) l ∧ OwnM w' W0.heap.size (.slice M2 1 cm2) (clm z))) (fun w1 h => by
        obtain ⟨a0, a1, A2', c2', M2', cm2', e, k0, k1⟩ := h
        obtain ⟨rfl, rfl, rfl, rfl⟩ := tvC_inj e
        exact ⟨a0, a1, k0, k1⟩) ?_
      refine TxtT.pure 7 (by rfl) (by rw [List.getElem?_toArray]; rfl) (by rfl) (by as_aux_lemma => kernel_rfl) (by rfl) ?_; apply Exists.intro; refine ⟨fun w1 hS1 => ?_, ?_⟩; (focus (skip; go_simp; with_reducible rfl))
      rw [show List.erase [7, 8, 9, 11, 12] 7 = [8, 9, 11, 12] from rfl]; simp only [Act.put, List.setIfInBounds_toArray, List.set_cons_zero, List.set_cons_succ]
      refine TxtT.pure 8 (by rfl) (by rw [List.getElem?_toArray]; rfl) (by rfl) (by as_aux_lemma => kernel_rfl) (by rfl) ?_; apply Exists.intro; refine ⟨fun w1 hS1 => ?_, ?_⟩; (focus (skip; go_simp; with_reducible rfl))
      rw [show List.erase [8, 9, 11, 12] 8 = [9, 11, 12] from rfl]; simp only [Act.put, List.setIfInBounds_toArray, List.set_cons_zero, List.set_cons_succ]
      refine TxtT.pure 9 (by rfl) (by rw [List.getElem?_toArray]; rfl) (by rfl) (by as_aux_lemma => kernel_rfl) (by rfl) ?_; apply Exists.intro; refine ⟨fun w1 hS1 => ?_, ?_⟩; (focus (skip; go_simp; with_reducible rfl))
      rw [show List.erase [9, 11, 12] 9 = [11, 12] from rfl]; simp only [Act.put, List.setIfInBounds_toArray, List.set_cons_zero, List.set_cons_succ]
      refine TxtT.one 11 (by as_aux_lemma => kernel_rfl) (by rw [List.getElem?_toArray]; rfl) (by rfl) (by rfl) (fun v => v = undef) (fun _ w' => W0.heap.size ≤ qd ∧ Blk w' qd 34 #[.int .i64 (n : Int), .slice A2 l.length c2, .int .i64 z, .int .i64 9, .int .i64 9, .slice M2 1 cm2] ∧ OwnP w' W0.heap.size (.slice A2 l.length c2) l ∧ OwnM w' W0.heap.size (.slice M2 1 cm2) (clm z) ∧ SrcOk w' p) (fun w1 hS1 hJ1 => ?_) ?_
      · obtain ⟨hs0, hx0, hr0, hr1⟩ := hJ1
        obtain ⟨hq, hk⟩ := hx0 qd rfl
        obtain ⟨g0, g1, g2, g3, g4, g5⟩ := dgC hk
        obtain ⟨f0, f1, f2, f3, f4, f5⟩ := dgF hk
        exact Eff.skip (w' := (((((w1.setCell ⟨qd, 0, none⟩ (.int .i64 (n : Int))).setCell ⟨qd, 1, none⟩ (.slice A2 l.length c2)).setCell ⟨qd, 2, none⟩ (.int .i64 z)).setCell ⟨qd, 3, none⟩ (.int .i64 9)).setCell ⟨qd, 4, none⟩ (.int .i64 9)).setCell ⟨qd, 5, none⟩ (.slice M2 1 cm2)) (by go_simp) ⟨near_set6o hS1 hq .., rfl, hq, set6 hk .., own_set6c hr0 hk (by decide) .., own_set6c hr1 hk (by decide) .., src_set6 hs0 (by omega) ..⟩
      rintro _ rfl
      rw [show List.erase [11, 12] 11 = [12] from rfl]; simp only [Act.put]
      refine TxtT.pure 12 (by rfl) (by rw [List.getElem?_toArray]; rfl) (by rfl) (by as_aux_lemma => kernel_rfl) (by rfl) ?_; apply Exists.intro; refine ⟨fun w1 hS1 => ?_, ?_⟩; (focus (skip; go_simp; with_reducible rfl))
      rw [show List.erase [12] 12 = [] from rfl]; simp only [Act.put, List.setIfInBounds_toArray, List.set_cons_zero, List.set_cons_succ]
      refine ⟨rfl, fun w1 hS1 hJ1 => ?_⟩
      go_wp2_with fail
      go_meet
      exact ⟨qd, z, A2, c2, M2, cm2, rfl, rfl, hz0, hz1, hJ1.1, hJ1.2.1, hJ1.2.2.1, hJ1.2.2.2.1, hJ1.2.2.2.2, hS1⟩
  obtain ⟨qd, z, A2, c2, M2, cm2, rfl, rfl, hz0, hz1, hqd, hkd, ho2, hm2, hsr, hnr⟩ := hcut
  obtain ⟨W6, hW6⟩ : ∃ W6, W6 = wc := ⟨_, rfl⟩
  subst hW6
  have hs6 := hnr.size
  have z0 := (near_cell hnr (lt_of_cell z0) (by dsimp only; omega)).trans z0
  have z1 := (near_cell hnr (lt_of_cell z1) (by dsimp only; omega)).trans z1
  obtain ⟨d0, d1, d2, d3, d4, d5⟩ := dgC hkd
  have hqd6 := hkd.lt
  have Hrp6 := Lib.hid (Hrp.out.grownQ hnr.grown HAp.out)
  have Hrp2 := Lib.hid (own_rp ho2)
  have Han2 := Lib.hid (own_nil ho2)
  have Hrm2 := Lib.hid (own_rm hm2).1
  have HA2p := Lib.hid (show ∀ b o, A2 = some ⟨b, o, none⟩ → 0 < l.length → b ≠ p from fun b o e _ => by have := own_ge ho2 b o e; omega)
  have HM2p := Lib.hid (show ∀ b o, M2 = some ⟨b, o, none⟩ → b ≠ p from fun b o e => by have := (own_rm hm2).2 b o e; omega)
  have HB6 := Lib.hid (HB0.out.trans ((near_below hnr hpW).mono Hp.out))
  have HS := Lib.hid hsr
  have hpW : p < W6.heap.size := by omega
  have hG6 : G < W6.heap.size := by omega
  clear hkd ho2 hm2 hsr hnr hs6 Hrp HB0
  go_upto_region 6 with fail
  go_cut [9, 10] (fun s9 s10 wx => ∃ (qx : Nat) (R : List Mv) (A3 : Option Addr) (c3 : Nat) (M3 : Option Addr) (cm3 : Nat), s9 = Value.pointer (some ⟨qx, 0, none⟩) ∧ s10 = Value.int .i64 0 ∧ PlayL 9 9 l z R ∧ W6.heap.size ≤ qx ∧ Blk wx qx 34 #[.int .i64 (n : Int), .slice A3 l.length c3, .int .i64 z, .int .i64 9, .int .i64 9, .slice M3 R.length cm3] ∧ OwnP wx W6.heap.size (.slice A3 l.length c3) l ∧ OwnM wx W6.heap.size (.slice M3 R.length cm3) R ∧ SrcOk wx p ∧ Near p W6.heap.size W6 wx)
  case first =>
    as_aux_lemma =>
    refine wp_region_tree [3, 5, 8, 10, 11, 15, 16] (fun w' => Near p W6.heap.size W6 w') (fun w' => SrcOk w' p ∧ BxD none W6.heap.size w') 18 [0, 1, 2, 3, 4, 5, 6, 7, 8, 9, 10, 11, 12, 13, 14, 15, 16, 17] (by rfl) (by decide) (by kernel_rfl) (by kernel_rfl) (Near.of_below (Below.refl _ _).drew) ⟨HS.out, BxD.no⟩ ?_
    refine TxtT.pure 0 (by rfl) (by rw [List.getElem?_toArray]; rfl) (by rfl) (by as_aux_lemma => kernel_rfl) (by rfl) ?_; apply Exists.intro; refine ⟨fun w1 hS1 => ?_, ?_⟩; (focus ((have gd0 := (near_cell hS1 (lt_of_cell d0) (by dsimp only; omega)).trans d0); (have gd1 := (near_cell hS1 (lt_of_cell d1) (by dsimp only; omega)).trans d1); (have gd2 := (near_cell hS1 (lt_of_cell d2) (by dsimp only; omega)).trans d2); (have gd3 := (near_cell hS1 (lt_of_cell d3) (by dsimp only; omega)).trans d3); (have gd4 := (near_cell hS1 (lt_of_cell d4) (by dsimp only; omega)).trans d4); (have gd5 := (near_cell hS1 (lt_of_cell d5) (by dsimp only; omega)).trans d5); go_simp; with_reducible rfl))
    rw [show List.erase [0, 1, 2, 3, 4, 5, 6, 7, 8, 9, 10, 11, 12, 13, 14, 15, 16, 17] 0 = [1, 2, 3, 4, 5, 6, 7, 8, 9, 10, 11, 12, 13, 14, 15, 16, 17] from rfl]; simp only [Act.put, List.setIfInBounds_toArray, List.set_cons_zero, List.set_cons_succ]
    refine TxtT.pure 1 (by rfl) (by rw [List.getElem?_toArray]; rfl) (by rfl) (by as_aux_lemma => kernel_rfl) (by rfl) ?_; apply Exists.intro; refine ⟨fun w1 hS1 => ?_, ?_⟩; (focus ((have gz0 := (near_cell hS1 (lt_of_cell z0) (by dsimp only; omega)).trans z0); (have gz1 := (near_cell hS1 (lt_of_cell z1) (by dsimp only; omega)).trans z1); go_simp; with_reducible rfl))
    rw [show List.erase [1, 2, 3, 4, 5, 6, 7, 8, 9, 10, 11, 12, 13, 14, 15, 16, 17] 1 = [2, 3, 4, 5, 6, 7, 8, 9, 10, 11, 12, 13, 14, 15, 16, 17] from rfl]; simp only [Act.put, List.setIfInBounds_toArray, List.set_cons_zero, List.set_cons_succ]
    refine TxtT.pure 2 (by rfl) (by rw [List.getElem?_toArray]; rfl) (by rfl) (by as_aux_lemma => kernel_rfl) (by rfl) ?_; apply Exists.intro; refine ⟨fun w1 hS1 => ?_, ?_⟩; (focus (skip; go_simp; with_reducible rfl))
    rw [show List.erase [2, 3, 4, 5, 6, 7, 8, 9, 10, 11, 12, 13, 14, 15, 16, 17] 2 = [3, 4, 5, 6, 7, 8, 9, 10, 11, 12, 13, 14, 15, 16, 17] from rfl]; simp only [Act.put, List.setIfInBounds_toArray, List.set_cons_zero, List.set_cons_succ]
    refine TxtT.pure 6 (by rfl) (by rw [List.getElem?_toArray]; rfl) (by rfl) (by as_aux_lemma => kernel_rfl) (by rfl) ?_; apply Exists.intro; refine ⟨fun w1 hS1 => ?_, ?_⟩; (focus ((have gz0 := (near_cell hS1 (lt_of_cell z0) (by dsimp only; omega)).trans z0); (have gz1 := (near_cell hS1 (lt_of_cell z1) (by dsimp only; omega)).trans z1); go_simp; with_reducible rfl))
    rw [show List.erase [3, 4, 5, 6, 7, 8, 9, 10, 11, 12, 13, 14, 15, 16, 17] 6 = [3, 4, 5, 7, 8, 9, 10, 11, 12, 13, 14, 15, 16, 17] from rfl]; simp only [Act.put, List.setIfInBounds_toArray, List.set_cons_zero, List.set_cons_succ]
    refine TxtT.pure 7 (by rfl) (by rw [List.getElem?_toArray]; rfl) (by rfl) (by as_aux_lemma => kernel_rfl) (by rfl) ?_; apply Exists.intro; refine ⟨fun w1 hS1 => ?_, ?_⟩; (focus (skip; go_simp; with_reducible rfl))
    rw [show List.erase [3, 4, 5, 7, 8, 9, 10, 11, 12, 13, 14, 15, 16, 17] 7 = [3, 4, 5, 8, 9, 10, 11, 12, 13, 14, 15, 16, 17] from rfl]; simp only [Act.put, List.setIfInBounds_toArray, List.set_cons_zero, List.set_cons_succ]
    refine TxtT.two 3 15 (by as_aux_lemma => kernel_rfl) (by rw [List.getElem?_toArray]; rfl) (by rw [List.getElem?_toArray]; rfl) (by rfl) (by rfl) (by rfl) (by rfl) (fun u => ∃ d1' : Int, u = Value.int .i64 d1' ∧ 0 ≤ d1' ∧ d1' ≤ 2) (fun _ w' => SrcOk w' p ∧ BxD none W6.heap.size w') (fun u => ∃ q, u = Value.pointer (some ⟨q, 0, none⟩)) (fun u w' => ∃ qd, u = Value.pointer (some ⟨qd, 0, none⟩) ∧ SrcOk w' p ∧ BxD (some qd) W6.heap.size w') (fun w1 hS1 hJ1 => ?_) (fun w1 hS1 hJ1 => ?_) ?_ ?_
    · obtain ⟨hs0, hx0⟩ := hJ1
      refine Eff.call (f := 8) (args := #[.pointer (some ⟨p, 0, none⟩), .int .i64 3]) (by go_simp) ((n_any p 3 w1 hs0 (by omega) (by omega)).mono ?_)
      rintro e w' ⟨d1', rfl, h1, h2, hs, hg⟩
      exact ⟨_, rfl, hS1.trans (Near.of_grown hg hS1.size), ⟨d1', rfl, h1, by omega⟩, hs, BxD.grown hx0 hg hpW⟩
    · obtain ⟨hs0, hx0⟩ := hJ1
      exact Eff.value (w' := w1.alloc (.cells #[.int .i64 0, .slice none 0 0, .int .i64 0, .int .i64 0, .int .i64 0, .slice none 0 0] 34)) (v := .pointer (some ⟨w1.heap.size, 0, none⟩)) (by go_simp) ⟨hS1.trans (Near.of_below ((newB _ _).mono hS1.size)), ⟨_, rfl⟩, _, rfl, hs0.kept (newB _ _), BxD.new hS1.size⟩
    ·
      rintro _ ⟨d1', rfl, hd1'0, hd1'1⟩
      rw [show List.erase [3, 4, 5, 8, 9, 10, 11, 12, 13, 14, 15, 16, 17] 3 = [4, 5, 8, 9, 10, 11, 12, 13, 14, 15, 16, 17] from rfl]; simp only [Act.put, List.setIfInBounds_toArray, List.set_cons_zero, List.set_cons_succ]
      refine TxtT.pure 4 (by rfl) (by rw [List.getElem?_toArray]; rfl) (by rfl) (by as_aux_lemma => kernel_rfl) (by rfl) ?_; apply Exists.intro; refine ⟨fun w1 hS1 => ?_, ?_⟩; (focus ((have hw1 : IntKind.i64.wrap (1 + d1') = 1 + d1' := by rw [IntKind.wrap_i64]; omega); go_simp; with_reducible rfl))
      rw [show List.erase [4, 5, 8, 9, 10, 11, 12, 13, 14, 15, 16, 17] 4 = [5, 8, 9, 10, 11, 12, 13, 14, 15, 16, 17] from rfl]; simp only [Act.put, List.setIfInBounds_toArray, List.set_cons_zero, List.set_cons_succ]
      refine TxtT.two 5 15 (by as_aux_lemma => kernel_rfl) (by rw [List.getElem?_toArray]; rfl) (by rw [List.getElem?_toArray]; rfl) (by rfl) (by rfl) (by rfl) (by rfl) (fun u => ∃ P1 pc1, u = Value.agg #[.slice P1 (allI n).length pc1, .slice none 0 0, .slice none 0 0, .int .i64 (1 + d1')]) (fun u w' => SrcOk w' p ∧ BxD none W6.heap.size w' ∧ ∃ P1 pc1, u = Value.agg #[.slice P1 (allI n).length pc1, .slice none 0 0, .slice none 0 0, .int .i64 (1 + d1')] ∧ OwnI w' W6.heap.size (.slice P1 (allI n).length pc1) (allI n)) (fun u => ∃ q, u = Value.pointer (some ⟨q, 0, none⟩)) (fun u w' => ∃ qd, u = Value.pointer (some ⟨qd, 0, none⟩) ∧ SrcOk w' p ∧ BxD (some qd) W6.heap.size w') (fun w1 hS1 hJ1 => ?_) (fun w1 hS1 hJ1 => ?_) ?_ ?_
      · obtain ⟨hs0, hx0⟩ := hJ1
        refine Eff.call (f := 10) (args := #[.agg #[.int .i64 (n : Int), .slice AL l.length cl], .int .i64 (1 + d1')]) (by go_simp) ((full_any AL n l cl (1 + d1') w1 (Hrp6.out.grownQ hS1.grown HAp.out) HV.out).mono ?_)
        rintro e w' ⟨P1, pc1, rfl, ho, hb⟩
        exact ⟨_, rfl, hS1.trans (Near.of_below (hb.mono hS1.size)), ⟨P1, pc1, rfl⟩, hs0.kept hb, BxD.below hx0 hb, P1, pc1, rfl, ownsRow_mono ho hS1.size⟩
      · obtain ⟨hs0, hx0⟩ := hJ1
        exact Eff.value (w' := w1.alloc (.cells #[.int .i64 0, .slice none 0 0, .int .i64 0, .int .i64 0, .int .i64 0, .slice none 0 0] 34)) (v := .pointer (some ⟨w1.heap.size, 0, none⟩)) (by go_simp) ⟨hS1.trans (Near.of_below ((newB _ _).mono hS1.size)), ⟨_, rfl⟩, _, rfl, hs0.kept (newB _ _), BxD.new hS1.size⟩
      ·
        rintro _ ⟨P1, pc1, rfl⟩
        rw [show List.erase [5, 8, 9, 10, 11, 12, 13, 14, 15, 16, 17] 5 = [8, 9, 10, 11, 12, 13, 14, 15, 16, 17] from rfl]; simp only [Act.put, List.setIfInBounds_toArray, List.set_cons_zero, List.set_cons_succ]
        refine TxtT.weakJ (J2 := (fun w' => SrcOk w' p ∧ BxD none W6.heap.size w' ∧ OwnI w' W6.heap.size (.slice P1 (allI n).length pc1) (allI n))) (fun w1 h => by
          obtain ⟨a0, a1, P1', pc1', e, k0⟩ := h
          obtain ⟨rfl, rfl⟩ := pvC_inj e
          exact ⟨a0, a1, k0⟩) ?_
        refine TxtT.two 8 15 (by as_aux_lemma => kernel_rfl) (by rw [List.getElem?_toArray]; rfl) (by rw [List.getElem?_toArray]; rfl) (by rfl) (by rfl) (by rfl) (by rfl) (fun u => ∃ d2' : Int, u = Value.int .i64 d2' ∧ 0 ≤ d2' ∧ d2' ≤ 2) (fun _ w' => SrcOk w' p ∧ BxD none W6.heap.size w' ∧ OwnI w' W6.heap.size (.slice P1 (allI n).length pc1) (allI n)) (fun u => ∃ q, u = Value.pointer (some ⟨q, 0, none⟩)) (fun u w' => ∃ qd, u = Value.pointer (some ⟨qd, 0, none⟩) ∧ SrcOk w' p ∧ BxD (some qd) W6.heap.size w' ∧ OwnI w' W6.heap.size (.slice P1 (allI n).length pc1) (allI n)) (fun w1 hS1 hJ1 => ?_) (fun w1 hS1 hJ1 => ?_) ?_ ?_
        · obtain ⟨hs0, hx0, hr0⟩ := hJ1
          refine Eff.call (f := 8) (args := #[.pointer (some ⟨p, 0, none⟩), .int .i64 3]) (by go_simp) ((n_any p 3 w1 hs0 (by omega) (by omega)).mono ?_)
          rintro e w' ⟨d2', rfl, h1, h2, hs, hg⟩
          exact ⟨_, rfl, hS1.trans (Near.of_grown hg hS1.size), ⟨d2', rfl, h1, by omega⟩, hs, BxD.grown hx0 hg hpW, ownsRow_far hr0 hg hpW⟩
        · obtain ⟨hs0, hx0, hr0⟩ := hJ1
          exact Eff.value (w' := w1.alloc (.cells #[.int .i64 0, .slice none 0 0, .int .i64 0, .int .i64 0, .int .i64 0, .slice none 0 0] 34)) (v := .pointer (some ⟨w1.heap.size, 0, none⟩)) (by go_simp) ⟨hS1.trans (Near.of_below ((newB _ _).mono hS1.size)), ⟨_, rfl⟩, _, rfl, hs0.kept (newB _ _), BxD.new hS1.size, ownsRow_below hr0 (newB _ _)⟩
        ·
          rintro _ ⟨d2', rfl, hd2'0, hd2'1⟩
          rw [show List.erase [8, 9, 10, 11, 12, 13, 14, 15, 16, 17] 8 = [9, 10, 11, 12, 13, 14, 15, 16, 17] from rfl]; simp only [Act.put, List.setIfInBounds_toArray, List.set_cons_zero, List.set_cons_succ]
          refine TxtT.pure 9 (by rfl) (by rw [List.getElem?_toArray]; rfl) (by rfl) (by as_aux_lemma => kernel_rfl) (by rfl) ?_; apply Exists.intro; refine ⟨fun w1 hS1 => ?_, ?_⟩; (focus ((have hw2 : IntKind.i64.wrap (1 + d2') = 1 + d2' := by rw [IntKind.wrap_i64]; omega); go_simp; with_reducible rfl))
          rw [show List.erase [9, 10, 11, 12, 13, 14, 15, 16, 17] 9 = [10, 11, 12, 13, 14, 15, 16, 17] from rfl]; simp only [Act.put, List.setIfInBounds_toArray, List.set_cons_zero, List.set_cons_succ]
          refine TxtT.two 10 15 (by as_aux_lemma => kernel_rfl) (by rw [List.getElem?_toArray]; rfl) (by rw [List.getElem?_toArray]; rfl) (by rfl) (by rfl) (by rfl) (by rfl) (fun u => ∃ P2 pc2, u = Value.agg #[.slice P2 (allI n).length pc2, .slice none 0 0, .slice none 0 0, .int .i64 (1 + d2')]) (fun u w' => SrcOk w' p ∧ BxD none W6.heap.size w' ∧ OwnI w' W6.heap.size (.slice P1 (allI n).length pc1) (allI n) ∧ ∃ P2 pc2, u = Value.agg #[.slice P2 (allI n).length pc2, .slice none 0 0, .slice none 0 0, .int .i64 (1 + d2')] ∧ OwnI w' W6.heap.size (.slice P2 (allI n).length pc2) (allI n)) (fun u => ∃ q, u = Value.pointer (some ⟨q, 0, none⟩)) (fun u w' => ∃ qd, u = Value.pointer (some ⟨qd, 0, none⟩) ∧ SrcOk w' p ∧ BxD (some qd) W6.heap.size w' ∧ OwnI w' W6.heap.size (.slice P1 (allI n).length pc1) (allI n)) (fun w1 hS1 hJ1 => ?_) (fun w1 hS1 hJ1 => ?_) ?_ ?_
          · obtain ⟨hs0, hx0, hr0⟩ := hJ1
            refine Eff.call (f := 10) (args := #[.agg #[.int .i64 (n : Int), .slice AL l.length cl], .int .i64 (1 + d2')]) (by go_simp) ((full_any AL n l cl (1 + d2') w1 (Hrp6.out.grownQ hS1.grown HAp.out) HV.out).mono ?_)
            rintro e w' ⟨P2, pc2, rfl, ho, hb⟩
            exact ⟨_, rfl, hS1.trans (Near.of_below (hb.mono hS1.size)), ⟨P2, pc2, rfl⟩, hs0.kept hb, BxD.below hx0 hb, ownsRow_below hr0 hb, P2, pc2, rfl, ownsRow_mono ho hS1.size⟩
          · obtain ⟨hs0, hx0, hr0⟩ := hJ1
            exact Eff.value (w' := w1.alloc (.cells #[.int .i64 0, .slice none 0 0, .int .i64 0, .int .i64 0, .int .i64 0, .slice none 0 0] 34)) (v := .pointer (some ⟨w1.heap.size, 0, none⟩)) (by go_simp) ⟨hS1.trans (Near.of_below ((newB _ _).mono hS1.size)), ⟨_, rfl⟩, _, rfl, hs0.kept (newB _ _), BxD.new hS1.size, ownsRow_below hr0 (newB _ _)⟩
          ·
            rintro _ ⟨P2, pc2, rfl⟩
            rw [show List.erase [10, 11, 12, 13, 14, 15, 16, 17] 10 = [11, 12, 13, 14, 15, 16, 17] from rfl]; simp only [Act.put, List.setIfInBounds_toArray, List.set_cons_zero, List.set_cons_succ]
            refine TxtT.weakJ (J2 := (fun w' => SrcOk w' p ∧ BxD none W6.heap.size w' ∧ OwnI w' W6.heap.size (.slice P1 (allI n).length pc1) (allI n) ∧ OwnI w' W6.heap.size (.slice P2 (allI n).length pc2) (allI n))) (fun w1 h => by
              obtain ⟨a0, a1, b0, P2', pc2', e, k0⟩ := h
              obtain ⟨rfl, rfl⟩ := pvC_inj e
              exact ⟨a0, a1, b0, k0⟩) ?_
            obtain ⟨R, hRd⟩ : ∃ R, runG 9 9 l (allI n) (allI n) (1 + d1') (1 + d2') 200 (clm z) = R := ⟨_, rfl⟩
            have HRd := Lib.hid hRd
            clear hRd
            refine TxtT.two 11 15 (by as_aux_lemma => kernel_rfl) (by rw [List.getElem?_toArray]; rfl) (by rw [List.getElem?_toArray]; rfl) (by rfl) (by rfl) (by rfl) (by rfl) (fun u => ∃ A3 c3 M3 cm3, u = Value.tuple #[.agg #[.int .i64 (n : Int), .slice A3 l.length c3, .int .i64 z, .int .i64 9, .int .i64 9, .slice M3 R.length cm3], .int .i64 0]) (fun u w' => SrcOk w' p ∧ BxD none W6.heap.size w' ∧ ∃ A3 c3 M3 cm3, u = Value.tuple #[.agg #[.int .i64 (n : Int), .slice A3 l.length c3, .int .i64 z, .int .i64 9, .int .i64 9, .slice M3 R.length cm3], .int .i64 0] ∧ OwnP w' W6.heap.size (.slice A3 l.length c3) l ∧ OwnM w' W6.heap.size (.slice M3 R.length cm3) R) (fun u => ∃ q, u = Value.pointer (some ⟨q, 0, none⟩)) (fun u w' => ∃ qd, u = Value.pointer (some ⟨qd, 0, none⟩) ∧ SrcOk w' p ∧ BxD (some qd) W6.heap.size w' ∧ OwnI w' W6.heap.size (.slice P1 (allI n).length pc1) (allI n) ∧ OwnI w' W6.heap.size (.slice P2 (allI n).length pc2) (allI n)) (fun w1 hS1 hJ1 => ?_) (fun w1 hS1 hJ1 => ?_) ?_ ?_
            · obtain ⟨hs0, hx0, hr0, hr1⟩ := hJ1
              refine Eff.call (f := 9) (args := #[.agg #[.int .i64 (n : Int), .slice A2 l.length c2, .int .i64 z, .int .i64 9, .int .i64 9, .slice M2 1 cm2], .agg #[.slice P1 (allI n).length pc1, .slice none 0 0, .slice none 0 0, .int .i64 (1 + d1')], .agg #[.slice P2 (allI n).length pc2, .slice none 0 0, .slice none 0 0, .int .i64 (1 + d2')]]) (by go_simp) ((run_any n A2 l c2 z 9 9 M2 (clm z) cm2 P1 (allI n) pc1 (1 + d1') P2 (allI n) pc2 (1 + d2') w1 (Hrp2.out.grownQ hS1.grown HA2p.out) Han2.out HV.out.1 hll (Hrm2.out.grown hS1.grown HM2p.out) (clm_ok z) (by rw [clm_len]; omega) (own_ri hr0) (by rw [allI_len]; omega) (allI_asc n) (by omega) (by omega) (own_ri hr1) (by rw [allI_len]; omega) (allI_asc n) (by omega) (by omega)).mono ?_)
              rw [HRd.out]
              rintro e w' ⟨A3, c3, M3, cm3, rfl, ho, hm, hb⟩
              exact ⟨_, rfl, hS1.trans (Near.of_below (hb.mono hS1.size)), ⟨A3, c3, M3, cm3, rfl⟩, hs0.kept hb, BxD.below hx0 hb, A3, c3, M3, cm3, rfl, ownsRow_mono ho hS1.size, hm.mono hS1.size⟩
            · obtain ⟨hs0, hx0, hr0, hr1⟩ := hJ1
              exact Eff.value (w' := w1.alloc (.cells #[.int .i64 0, .slice none 0 0, .int .i64 0, .int .i64 0, .int .i64 0, .slice none 0 0] 34)) (v := .pointer (some ⟨w1.heap.size, 0, none⟩)) (by go_simp) ⟨hS1.trans (Near.of_below ((newB _ _).mono hS1.size)), ⟨_, rfl⟩, _, rfl, hs0.kept (newB _ _), BxD.new hS1.size, ownsRow_below hr0 (newB _ _), ownsRow_below hr1 (newB _ _)⟩
            ·
              rintro _ ⟨A3, c3, M3, cm3, rfl⟩
              rw [show List.erase [11, 12, 13, 14, 15, 16, 17] 11 = [12, 13, 14, 15, 16, 17] from rfl]; simp only [Act.put, List.setIfInBounds_toArray, List.set_cons_zero, List.set_cons_succ]
              refine TxtT.weakJ (J2 := (fun w' => SrcOk w' p ∧ BxD none W6.heap.size w' ∧ OwnP w' W6.heap.size (.slice A3 l.length c3) l ∧ OwnM w' W6.heap.size (.slice M3 R.length cm3) R)) (fun w1 h => by
                obtain ⟨a0, a1, A3', c3', M3', cm3', e, k0, k1⟩ := h
                obtain ⟨rfl, rfl, rfl, rfl⟩ := tvC_inj e
                exact ⟨a0, a1, k0, k1⟩) ?_
              refine TxtT.pure 12 (by rfl) (by rw [List.getElem?_toArray]; rfl) (by rfl) (by as_aux_lemma => kernel_rfl) (by rfl) ?_; apply Exists.intro; refine ⟨fun w1 hS1 => ?_, ?_⟩; (focus (skip; go_simp; with_reducible rfl))
              rw [show List.erase [12, 13, 14, 15, 16, 17] 12 = [13, 14, 15, 16, 17] from rfl]; simp only [Act.put, List.setIfInBounds_toArray, List.set_cons_zero, List.set_cons_succ]
              refine TxtT.pure 13 (by rfl) (by rw [List.getElem?_toArray]; rfl) (by rfl) (by as_aux_lemma => kernel_rfl) (by rfl) ?_; apply Exists.intro; refine ⟨fun w1 hS1 => ?_, ?_⟩; (focus (skip; go_simp; with_reducible rfl))
              rw [show List.erase [13, 14, 15, 16, 17] 13 = [14, 15, 16, 17] from rfl]; simp only [Act.put, List.setIfInBounds_toArray, List.set_cons_zero, List.set_cons_succ]
              refine TxtT.pure 14 (by rfl) (by rw [List.getElem?_toArray]; rfl) (by rfl) (by as_aux_lemma => kernel_rfl) (by rfl) ?_; apply Exists.intro; refine ⟨fun w1 hS1 => ?_, ?_⟩; (focus (skip; go_simp; with_reducible rfl))
              rw [show List.erase [14, 15, 16, 17] 14 = [15, 16, 17] from rfl]; simp only [Act.put, List.setIfInBounds_toArray, List.set_cons_zero, List.set_cons_succ]
              refine TxtT.one 15 (by as_aux_lemma => kernel_rfl) (by rw [List.getElem?_toArray]; rfl) (by rfl) (by rfl) (fun u => ∃ q, u = Value.pointer (some ⟨q, 0, none⟩)) (fun u w' => ∃ qd, u = Value.pointer (some ⟨qd, 0, none⟩) ∧ SrcOk w' p ∧ BxD (some qd) W6.heap.size w' ∧ OwnP w' W6.heap.size (.slice A3 l.length c3) l ∧ OwnM w' W6.heap.size (.slice M3 R.length cm3) R) (fun w1 hS1 hJ1 => ?_) ?_
              · obtain ⟨hs0, hx0, hr0, hr1⟩ := hJ1
                exact Eff.value (w' := w1.alloc (.cells #[.int .i64 0, .slice none 0 0, .int .i64 0, .int .i64 0, .int .i64 0, .slice none 0 0] 34)) (v := .pointer (some ⟨w1.heap.size, 0, none⟩)) (by go_simp) ⟨hS1.trans (Near.of_below ((newB _ _).mono hS1.size)), ⟨_, rfl⟩, _, rfl, hs0.kept (newB _ _), BxD.new hS1.size, ownsRow_below hr0 (newB _ _), ownsRow_below hr1 (newB _ _)⟩
              rintro _ ⟨qd, rfl⟩
              rw [show List.erase [15, 16, 17] 15 = [16, 17] from rfl]; simp only [Act.put, List.setIfInBounds_toArray, List.set_cons_zero, List.set_cons_succ]
              refine TxtT.weakJ (J2 := (fun w' => SrcOk w' p ∧ BxD (some qd) W6.heap.size w' ∧ OwnP w' W6.heap.size (.slice A3 l.length c3) l ∧ OwnM w' W6.heap.size (.slice M3 R.length cm3) R)) (fun w1 h => by obtain ⟨q', hq, h⟩ := h; injection hq with hq; injection hq with hq; injection hq with hq _ _; subst hq; exact h) ?_
              refine TxtT.one 16 (by as_aux_lemma => kernel_rfl) (by rw [List.getElem?_toArray]; rfl) (by rfl) (by rfl) (fun v => v = undef) (fun _ w' => W6.heap.size ≤ qd ∧ Blk w' qd 34 #[.int .i64 (n : Int), .slice A3 l.length c3, .int .i64 z, .int .i64 9, .int .i64 9, .slice M3 R.length cm3] ∧ OwnP w' W6.heap.size (.slice A3 l.length c3) l ∧ OwnM w' W6.heap.size (.slice M3 R.length cm3) R ∧ SrcOk w' p) (fun w1 hS1 hJ1 => ?_) ?_
              · obtain ⟨hs0, hx0, hr0, hr1⟩ := hJ1
                obtain ⟨hq, hk⟩ := hx0 qd rfl
                obtain ⟨g0, g1, g2, g3, g4, g5⟩ := dgC hk
                obtain ⟨f0, f1, f2, f3, f4, f5⟩ := dgF hk
                exact Eff.skip (w' := (((((w1.setCell ⟨qd, 0, none⟩ (.int .i64 (n : Int))).setCell ⟨qd, 1, none⟩ (.slice A3 l.length c3)).setCell ⟨qd, 2, none⟩ (.int .i64 z)).setCell ⟨qd, 3, none⟩ (.int .i64 9)).setCell ⟨qd, 4, none⟩ (.int .i64 9)).setCell ⟨qd, 5, none⟩ (.slice M3 R.length cm3)) (by go_simp) ⟨near_set6o hS1 hq .., rfl, hq, set6 hk .., own_set6c hr0 hk (by decide) .., own_set6c hr1 hk (by decide) .., src_set6 hs0 (by omega) ..⟩
              rintro _ rfl
              rw [show List.erase [16, 17] 16 = [17] from rfl]; simp only [Act.put]
              refine TxtT.pure 17 (by rfl) (by rw [List.getElem?_toArray]; rfl) (by rfl) (by as_aux_lemma => kernel_rfl) (by rfl) ?_; apply Exists.intro; refine ⟨fun w1 hS1 => ?_, ?_⟩; (focus (skip; go_simp; with_reducible rfl))
              rw [show List.erase [17] 17 = [] from rfl]; simp only [Act.put, List.setIfInBounds_toArray, List.set_cons_zero, List.set_cons_succ]
              refine ⟨rfl, fun w1 hS1 hJ1 => ?_⟩
              have hpl := PlayL.run (p1 := allI n) (p2 := allI n) (s1 := 1 + d1') (s2 := 1 + d2') 200 (clm z) (PlayL.ofClm 9 9 l z)
              rw [HRd.out] at hpl
              go_wp2_with fail
              go_meet
              exact ⟨qd, R, A3, c3, M3, cm3, rfl, rfl, hpl, hJ1.1, hJ1.2.1, hJ1.2.2.1, hJ1.2.2.2.1, hJ1.2.2.2.2, hS1⟩
            · as_aux_lemma =>
              rintro _ ⟨qd, rfl⟩
              rw [show List.erase [11, 12, 13, 14, 15, 16, 17] 15 = [11, 12, 13, 14, 16, 17] from rfl]; simp only [Act.put, List.setIfInBounds_toArray, List.set_cons_zero, List.set_cons_succ]
              refine TxtT.weakJ (J2 := (fun w' => SrcOk w' p ∧ BxD (some qd) W6.heap.size w' ∧ OwnI w' W6.heap.size (.slice P1 (allI n).length pc1) (allI n) ∧ OwnI w' W6.heap.size (.slice P2 (allI n).length pc2) (allI n))) (fun w1 h => by obtain ⟨q', hq, h⟩ := h; injection hq with hq; injection hq with hq; injection hq with hq _ _; subst hq; exact h) ?_
              refine TxtT.one 11 (by as_aux_lemma => kernel_rfl) (by rw [List.getElem?_toArray]; rfl) (by rfl) (by rfl) (fun u => ∃ A3 c3 M3 cm3, u = Value.tuple #[.agg #[.int .i64 (n : Int), .slice A3 l.length c3, .int .i64 z, .int .i64 9, .int .i64 9, .slice M3 R.length cm3], .int .i64 0]) (fun u w' => SrcOk w' p ∧ BxD (some qd) W6.heap.size w' ∧ ∃ A3 c3 M3 cm3, u = Value.tuple #[.agg #[.int .i64 (n : Int), .slice A3 l.length c3, .int .i64 z, .int .i64 9, .int .i64 9, .slice M3 R.length cm3], .int .i64 0] ∧ OwnP w' W6.heap.size (.slice A3 l.length c3) l ∧ OwnM w' W6.heap.size (.slice M3 R.length cm3) R) (fun w1 hS1 hJ1 => ?_) ?_
              · obtain ⟨hs0, hx0, hr0, hr1⟩ := hJ1
                refine Eff.call (f := 9) (args := #[.agg #[.int .i64 (n : Int), .slice A2 l.length c2, .int .i64 z, .int .i64 9, .int .i64 9, .slice M2 1 cm2], .agg #[.slice P1 (allI n).length pc1, .slice none 0 0, .slice none 0 0, .int .i64 (1 + d1')], .agg #[.slice P2 (allI n).length pc2, .slice none 0 0, .slice none 0 0, .int .i64 (1 + d2')]]) (by go_simp) ((run_any n A2 l c2 z 9 9 M2 (clm z) cm2 P1 (allI n) pc1 (1 + d1') P2 (allI n) pc2 (1 + d2') w1 (Hrp2.out.grownQ hS1.grown HA2p.out) Han2.out HV.out.1 hll (Hrm2.out.grown hS1.grown HM2p.out) (clm_ok z) (by rw [clm_len]; omega) (own_ri hr0) (by rw [allI_len]; omega) (allI_asc n) (by omega) (by omega) (own_ri hr1) (by rw [allI_len]; omega) (allI_asc n) (by omega) (by omega)).mono ?_)
                rw [HRd.out]
                rintro e w' ⟨A3, c3, M3, cm3, rfl, ho, hm, hb⟩
                exact ⟨_, rfl, hS1.trans (Near.of_below (hb.mono hS1.size)), ⟨A3, c3, M3, cm3, rfl⟩, hs0.kept hb, BxD.below hx0 hb, A3, c3, M3, cm3, rfl, ownsRow_mono ho hS1.size, hm.mono hS1.size⟩
              rintro _ ⟨A3, c3, M3, cm3, rfl⟩
              rw [show List.erase [11, 12, 13, 14, 16, 17] 11 = [12, 13, 14, 16, 17] from rfl]; simp only [Act.put, List.setIfInBounds_toArray, List.set_cons_zero, List.set_cons_succ]
              refine TxtT.weakJ (J2 := (fun w' => SrcOk w' p ∧ BxD (some qd) W6.heap.size w' ∧ OwnP w' W6.heap.size (.slice A3 l.length c3) l ∧ OwnM w' W6.heap.size (.slice M3 R.length cm3) R)) (fun w1 h => by
                obtain ⟨a0, a1, A3', c3', M3', cm3', e, k0, k1⟩ := h
                obtain ⟨rfl, rfl, rfl, rfl⟩ := tvC_inj e
                exact ⟨a0, a1, k0, k1⟩) ?_
              refine TxtT.pure 12 (by rfl) (by rw [List.getElem?_toArray]; rfl) (by rfl) (by as_aux_lemma => kernel_rfl) (by rfl) ?_; apply Exists.intro; refine ⟨fun w1 hS1 => ?_, ?_⟩; (focus (skip; go_simp; with_reducible rfl))
              rw [show List.erase [12, 13, 14, 16, 17] 12 = [13, 14, 16, 17] from rfl]; simp only [Act.put, List.setIfInBounds_toArray, List.set_cons_zero, List.set_cons_succ]
              refine TxtT.pure 13 (by rfl) (by rw [List.getElem?_toArray]; rfl) (by rfl) (by as_aux_lemma => kernel_rfl) (by rfl) ?_; apply Exists.intro; refine ⟨fun w1 hS1 => ?_, ?_⟩; (focus (skip; go_simp; with_reducible rfl))
              rw [show List.erase [13, 14, 16, 17] 13 = [14, 16, 17] from rfl]; simp only [Act.put, List.setIfInBounds_toArray, List.set_cons_zero, List.set_cons_succ]
              refine TxtT.pure 14 (by rfl) (by rw [List.getElem?_toArray]; rfl) (by rfl) (by as_aux_lemma => kernel_rfl) (by rfl) ?_; apply Exists.intro; refine ⟨fun w1 hS1 => ?_, ?_⟩; (focus (skip; go_simp; with_reducible rfl))
              rw [show List.erase [14, 16, 17] 14 = [16, 17] from rfl]; simp only [Act.put, List.setIfInBounds_toArray, List.set_cons_zero, List.set_cons_succ]
              refine TxtT.one 16 (by as_aux_lemma => kernel_rfl) (by rw [List.getElem?_toArray]; rfl) (by rfl) (by rfl) (fun v => v = undef) (fun _ w' => W6.heap.size ≤ qd ∧ Blk w' qd 34 #[.int .i64 (n : Int), .slice A3 l.length c3, .int .i64 z, .int .i64 9, .int .i64 9, .slice M3 R.length cm3] ∧ OwnP w' W6.heap.size (.slice A3 l.length c3) l ∧ OwnM w' W6.heap.size (.slice M3 R.length cm3) R ∧ SrcOk w' p) (fun w1 hS1 hJ1 => ?_) ?_
              · obtain ⟨hs0, hx0, hr0, hr1⟩ := hJ1
                obtain ⟨hq, hk⟩ := hx0 qd rfl
                obtain ⟨g0, g1, g2, g3, g4, g5⟩ := dgC hk
                obtain ⟨f0, f1, f2, f3, f4, f5⟩ := dgF hk
                exact Eff.skip (w' := (((((w1.setCell ⟨qd, 0, none⟩ (.int .i64 (n : Int))).setCell ⟨qd, 1, none⟩ (.slice A3 l.length c3)).setCell ⟨qd, 2, none⟩ (.int .i64 z)).setCell ⟨qd, 3, none⟩ (.int .i64 9)).setCell ⟨qd, 4, none⟩ (.int .i64 9)).setCell ⟨qd, 5, none⟩ (.slice M3 R.length cm3)) (by go_simp) ⟨near_set6o hS1 hq .., rfl, hq, set6 hk .., own_set6c hr0 hk (by decide) .., own_set6c hr1 hk (by decide) .., src_set6 hs0 (by omega) ..⟩
              rintro _ rfl
              rw [show List.erase [16, 17] 16 = [17] from rfl]; simp only [Act.put]
              refine TxtT.pure 17 (by rfl) (by rw [List.getElem?_toArray]; rfl) (by rfl) (by as_aux_lemma => kernel_rfl) (by rfl) ?_; apply Exists.intro; refine ⟨fun w1 hS1 => ?_, ?_⟩; (focus (skip; go_simp; with_reducible rfl))
              rw [show List.erase [17] 17 = [] from rfl]; simp only [Act.put, List.setIfInBounds_toArray, List.set_cons_zero, List.set_cons_succ]
              refine ⟨rfl, fun w1 hS1 hJ1 => ?_⟩
              have hpl := PlayL.run (p1 := allI n) (p2 := allI n) (s1 := 1 + d1') (s2 := 1 + d2') 200 (clm z) (PlayL.ofClm 9 9 l z)
              rw [HRd.out] at hpl
              go_wp2_with fail
              go_meet
              exact ⟨qd, R, A3, c3, M3, cm3, rfl, rfl, hpl, hJ1.1, hJ1.2.1, hJ1.2.2.1, hJ1.2.2.2.1, hJ1.2.2.2.2, hS1⟩
          · as_aux_lemma =>
            rintro _ ⟨qd, rfl⟩
            rw [show List.erase [10, 11, 12, 13, 14, 15, 16, 17] 15 = [10, 11, 12, 13, 14, 16, 17] from rfl]; simp only [Act.put, List.setIfInBounds_toArray, List.set_cons_zero, List.set_cons_succ]
            refine TxtT.weakJ (J2 := (fun w' => SrcOk w' p ∧ BxD (some qd) W6.heap.size w' ∧ OwnI w' W6.heap.size (.slice P1 (allI n).length pc1) (allI n))) (fun w1 h => by obtain ⟨q', hq, h⟩ := h; injection hq with hq; injection hq with hq; injection hq with hq _ _; subst hq; exact h) ?_
            refine TxtT.one 10 (by as_aux_lemma => kernel_rfl) (by rw [List.getElem?_toArray]; rfl) (by rfl) (by rfl) (fun u => ∃ P2 pc2, u = Value.agg #[.slice P2 (allI n).length pc2, .slice none 0 0, .slice none 0 0, .int .i64 (1 + d2')]) (fun u w' => SrcOk w' p ∧ BxD (some qd) W6.heap.size w' ∧ OwnI w' W6.heap.size (.slice P1 (allI n).length pc1) (allI n) ∧ ∃ P2 pc2, u = Value.agg #[.slice P2 (allI n).length pc2, .slice none 0 0, .slice none 0 0, .int .i64 (1 + d2')] ∧ OwnI w' W6.heap.size (.slice P2 (allI n).length pc2) (allI n)) (fun w1 hS1 hJ1 => ?_) ?_
            · obtain ⟨hs0, hx0, hr0⟩ := hJ1
              refine Eff.call (f := 10) (args := #[.agg #[.int .i64 (n : Int), .slice AL l.length cl], .int .i64 (1 + d2')]) (by go_simp) ((full_any AL n l cl (1 + d2') w1 (Hrp6.out.grownQ hS1.grown HAp.out) HV.out).mono ?_)
              rintro e w' ⟨P2, pc2, rfl, ho, hb⟩
              exact ⟨_, rfl, hS1.trans (Near.of_below (hb.mono hS1.size)), ⟨P2, pc2, rfl⟩, hs0.kept hb, BxD.below hx0 hb, ownsRow_below hr0 hb, P2, pc2, rfl, ownsRow_mono ho hS1.size⟩
            rintro _ ⟨P2, pc2, rfl⟩
            rw [show List.erase [10, 11, 12, 13, 14, 16, 17] 10 = [11, 12, 13, 14, 16, 17] from rfl]; simp only [Act.put, List.setIfInBounds_toArray, List.set_cons_zero, List.set_cons_succ]
            refine TxtT.weakJ (J2 := (fun w' => SrcOk w' p ∧ BxD (some qd) W6.heap.size w' ∧ OwnI w' W6.heap.size (.slice P1 (allI n).length pc1) (allI n) ∧ OwnI w' W6.heap.size (.slice P2 (allI n).length pc2) (allI n))) (fun w1 h => by
              obtain ⟨a0, a1, b0, P2', pc2', e, k0⟩ := h
              obtain ⟨rfl, rfl⟩ := pvC_inj e
              exact ⟨a0, a1, b0, k0⟩) ?_
            obtain ⟨R, hRd⟩ : ∃ R, runG 9 9 l (allI n) (allI n) (1 + d1') (1 + d2') 200 (clm z) = R := ⟨_, rfl⟩
            have HRd := Lib.hid hRd
            clear hRd
            refine TxtT.one 11 (by as_aux_lemma => kernel_rfl) (by rw [List.getElem?_toArray]; rfl) (by rfl) (by rfl) (fun u => ∃ A3 c3 M3 cm3, u = Value.tuple #[.agg #[.int .i64 (n : Int), .slice A3 l.length c3, .int .i64 z, .int .i64 9, .int .i64 9, .slice M3 R.length cm3], .int .i64 0]) (fun u w' => SrcOk w' p ∧ BxD (some qd) W6.heap.size w' ∧ ∃ A3 c3 M3 cm3, u = Value.tuple #[.agg #[.int .i64 (n : Int), .slice A3 l.length c3, .int .i64 z, .int .i64 9, .int .i64 9, .slice M3 R.length cm3], .int .i64 0] ∧ OwnP w' W6.heap.size (.slice A3 l.length c3) l ∧ OwnM w' W6.heap.size (.slice M3 R.length cm3) R) (fun w1 hS1 hJ1 => ?_) ?_
            · obtain ⟨hs0, hx0, hr0, hr1⟩ := hJ1
              refine Eff.call (f := 9) (args := #[.agg #[.int .i64 (n : Int), .slice A2 l.length c2, .int .i64 z, .int .i64 9, .int .i64 9, .slice M2 1 cm2], .agg #[.slice P1 (allI n).length pc1, .slice none 0 0, .slice none 0 0, .int .i64 (1 + d1')], .agg #[.slice P2 (allI n).length pc2, .slice none 0 0, .slice none 0 0, .int .i64 (1 + d2')]]) (by go_simp) ((run_any n A2 l c2 z 9 9 M2 (clm z) cm2 P1 (allI n) pc1 (1 + d1') P2 (allI n) pc2 (1 + d2') w1 (Hrp2.out.grownQ hS1.grown HA2p.out) Han2.out HV.out.1 hll (Hrm2.out.grown hS1.grown HM2p.out) (clm_ok z) (by rw [clm_len]; omega) (own_ri hr0) (by rw [allI_len]; omega) (allI_asc n) (by omega) (by omega) (own_ri hr1) (by rw [allI_len]; omega) (allI_asc n) (by omega) (by omega)).mono ?_)
              rw [HRd.out]
              rintro e w' ⟨A3, c3, M3, cm3, rfl, ho, hm, hb⟩
              exact ⟨_, rfl, hS1.trans (Near.of_below (hb.mono hS1.size)), ⟨A3, c3, M3, cm3, rfl⟩, hs0.kept hb, BxD.below hx0 hb, A3, c3, M3, cm3, rfl, ownsRow_mono ho hS1.size, hm.mono hS1.size⟩
            rintro _ ⟨A3, c3, M3, cm3, rfl⟩
            rw [show List.erase [11, 12, 13, 14, 16, 17] 11 = [12, 13, 14, 16, 17] from rfl]; simp only [Act.put, List.setIfInBounds_toArray, List.set_cons_zero, List.set_cons_succ]
            refine TxtT.weakJ (J2 := (fun w' => SrcOk w' p ∧ BxD (some qd) W6.heap.size w' ∧ OwnP w' W6.heap.size (.slice A3 l.length c3) l ∧ OwnM w' W6.heap.size (.slice M3 R.length cm3) R)) (fun w1 h => by
              obtain ⟨a0, a1, A3', c3', M3', cm3', e, k0, k1⟩ := h
              obtain ⟨rfl, rfl, rfl, rfl⟩ := tvC_inj e
              exact ⟨a0, a1, k0, k1⟩) ?_
            refine TxtT.pure 12 (by rfl) (by rw [List.getElem?_toArray]; rfl) (by rfl) (by as_aux_lemma => kernel_rfl) (by rfl) ?_; apply Exists.intro; refine ⟨fun w1 hS1 => ?_, ?_⟩; (focus (skip; go_simp; with_reducible rfl))
            rw [show List.erase [12, 13, 14, 16, 17] 12 = [13, 14, 16, 17] from rfl]; simp only [Act.put, List.setIfInBounds_toArray, List.set_cons_zero, List.set_cons_succ]
            refine TxtT.pure 13 (by rfl) (by rw [List.getElem?_toArray]; rfl) (by rfl) (by as_aux_lemma => kernel_rfl) (by rfl) ?_; apply Exists.intro; refine ⟨fun w1 hS1 => ?_, ?_⟩; (focus (skip; go_simp; with_reducible rfl))
            rw [show List.erase [13, 14, 16, 17] 13 = [14, 16, 17] from rfl]; simp only [Act.put, List.setIfInBounds_toArray, List.set_cons_zero, List.set_cons_succ]
            refine TxtT.pure 14 (by rfl) (by rw [List.getElem?_toArray]; rfl) (by rfl) (by as_aux_lemma => kernel_rfl) (by rfl) ?_; apply Exists.intro; refine ⟨fun w1 hS1 => ?_, ?_⟩; (focus (skip; go_simp; with_reducible rfl))
            rw [show List.erase [14, 16, 17] 14 = [16, 17] from rfl]; simp only [Act.put, List.setIfInBounds_toArray, List.set_cons_zero, List.set_cons_succ]
            refine TxtT.one 16 (by as_aux_lemma => kernel_rfl) (by rw [List.getElem?_toArray]; rfl) (by rfl) (by rfl) (fun v => v = undef) (fun _ w' => W6.heap.size ≤ qd ∧ Blk w' qd 34 #[.int .i64 (n : Int), .slice A3 l.length c3, .int .i64 z, .int .i64 9, .int .i64 9, .slice M3 R.length cm3] ∧ OwnP w' W6.heap.size (.slice A3 l.length c3) l ∧ OwnM w' W6.heap.size (.slice M3 R.length cm3) R ∧ SrcOk w' p) (fun w1 hS1 hJ1 => ?_) ?_
            · obtain ⟨hs0, hx0, hr0, hr1⟩ := hJ1
              obtain ⟨hq, hk⟩ := hx0 qd rfl
              obtain ⟨g0, g1, g2, g3, g4, g5⟩ := dgC hk
              obtain ⟨f0, f1, f2, f3, f4, f5⟩ := dgF hk
              exact Eff.skip (w' := (((((w1.setCell ⟨qd, 0, none⟩ (.int .i64 (n : Int))).setCell ⟨qd, 1, none⟩ (.slice A3 l.length c3)).setCell ⟨qd, 2, none⟩ (.int .i64 z)).setCell ⟨qd, 3, none⟩ (.int .i64 9)).setCell ⟨qd, 4, none⟩ (.int .i64 9)).setCell ⟨qd, 5, none⟩ (.slice M3 R.length cm3)) (by go_simp) ⟨near_set6o hS1 hq .., rfl, hq, set6 hk .., own_set6c hr0 hk (by decide) .., own_set6c hr1 hk (by decide) .., src_set6 hs0 (by omega) ..⟩
            rintro _ rfl
            rw [show List.erase [16, 17] 16 = [17] from rfl]; simp only [Act.put]
            refine TxtT.pure 17 (by rfl) (by rw [List.getElem?_toArray]; rfl) (by rfl) (by as_aux_lemma => kernel_rfl) (by rfl) ?_; apply Exists.intro; refine ⟨fun w1 hS1 => ?_, ?_⟩; (focus (skip; go_simp; with_reducible rfl))
            rw [show List.erase [17] 17 = [] from rfl]; simp only [Act.put, List.setIfInBounds_toArray, List.set_cons_zero, List.set_cons_succ]
            refine ⟨rfl, fun w1 hS1 hJ1 => ?_⟩
            have hpl := PlayL.run (p1 := allI n) (p2 := allI n) (s1 := 1 + d1') (s2 := 1 + d2') 200 (clm z) (PlayL.ofClm 9 9 l z)
            rw [HRd.out] at hpl
            go_wp2_with fail
            go_meet
            exact ⟨qd, R, A3, c3, M3, cm3, rfl, rfl, hpl, hJ1.1, hJ1.2.1, hJ1.2.2.1, hJ1.2.2.2.1, hJ1.2.2.2.2, hS1⟩
        · as_aux_lemma =>
          rintro _ ⟨qd, rfl⟩
          rw [show List.erase [8, 9, 10, 11, 12, 13, 14, 15, 16, 17] 15 = [8, 9, 10, 11, 12, 13, 14, 16, 17] from rfl]; simp only [Act.put, List.setIfInBounds_toArray, List.set_cons_zero, List.set_cons_succ]
          refine TxtT.weakJ (J2 := (fun w' => SrcOk w' p ∧ BxD (some qd) W6.heap.size w' ∧ OwnI w' W6.heap.size (.slice P1 (allI n).length pc1) (allI n))) (fun w1 h => by obtain ⟨q', hq, h⟩ := h; injection hq with hq; injection hq with hq; injection hq with hq _ _; subst hq; exact h) ?_
          refine TxtT.one 8 (by as_aux_lemma => kernel_rfl) (by rw [List.getElem?_toArray]; rfl) (by rfl) (by rfl) (fun u => ∃ d2' : Int, u = Value.int .i64 d2' ∧ 0 ≤ d2' ∧ d2' ≤ 2) (fun _ w' => SrcOk w' p ∧ BxD (some qd) W6.heap.size w' ∧ OwnI w' W6.heap.size (.slice P1 (allI n).length pc1) (allI n)) (fun w1 hS1 hJ1 => ?_) ?_
          · obtain ⟨hs0, hx0, hr0⟩ := hJ1
            refine Eff.call (f := 8) (args := #[.pointer (some ⟨p, 0, none⟩), .int .i64 3]) (by go_simp) ((n_any p 3 w1 hs0 (by omega) (by omega)).mono ?_)
            rintro e w' ⟨d2', rfl, h1, h2, hs, hg⟩
            exact ⟨_, rfl, hS1.trans (Near.of_grown hg hS1.size), ⟨d2', rfl, h1, by omega⟩, hs, BxD.grown hx0 hg hpW, ownsRow_far hr0 hg hpW⟩
          rintro _ ⟨d2', rfl, hd2'0, hd2'1⟩
          rw [show List.erase [8, 9, 10, 11, 12, 13, 14, 16, 17] 8 = [9, 10, 11, 12, 13, 14, 16, 17] from rfl]; simp only [Act.put, List.setIfInBounds_toArray, List.set_cons_zero, List.set_cons_succ]
          refine TxtT.pure 9 (by rfl) (by rw [List.getElem?_toArray]; rfl) (by rfl) (by as_aux_lemma => kernel_rfl) (by rfl) ?_; apply Exists.intro; refine ⟨fun w1 hS1 => ?_, ?_⟩; (focus ((have hw2 : IntKind.i64.wrap (1 + d2') = 1 + d2' := by rw [IntKind.wrap_i64]; omega); go_simp; with_reducible rfl))
          rw [show List.erase [9, 10, 11, 12, 13, 14, 16, 17] 9 = [10, 11, 12, 13, 14, 16, 17] from rfl]; simp only [Act.put, List.setIfInBounds_toArray, List.set_cons_zero, List.set_cons_succ]
          refine TxtT.one 10 (by as_aux_lemma => kernel_rfl) (by rw [List.getElem?_toArray]; rfl) (by rfl) (by rfl) (fun u => ∃ P2 pc2, u = Value.agg #[.slice P2 (allI n).length pc2, .slice none 0 0, .slice none 0 0, .int .i64 (1 + d2')]) (fun u w' => SrcOk w' p ∧ BxD (some qd) W6.heap.size w' ∧ OwnI w' W6.heap.size (.slice P1 (allI n).length pc1) (allI n) ∧ ∃ P2 pc2, u = Value.agg #[.slice P2 (allI n).length pc2, .slice none 0 0, .slice none 0 0, .int .i64 (1 + d2')] ∧ OwnI w' W6.heap.size (.slice P2 (allI n).length pc2) (allI n)) (fun w1 hS1 hJ1 => ?_) ?_
          · obtain ⟨hs0, hx0, hr0⟩ := hJ1
            refine Eff.call (f := 10) (args := #[.agg #[.int .i64 (n : Int), .slice AL l.length cl], .int .i64 (1 + d2')]) (by go_simp) ((full_any AL n l cl (1 + d2') w1 (Hrp6.out.grownQ hS1.grown HAp.out) HV.out).mono ?_)
            rintro e w' ⟨P2, pc2, rfl, ho, hb⟩
            exact ⟨_, rfl, hS1.trans (Near.of_below (hb.mono hS1.size)), ⟨P2, pc2, rfl⟩, hs0.kept hb, BxD.below hx0 hb, ownsRow_below hr0 hb, P2, pc2, rfl, ownsRow_mono ho hS1.size⟩
          rintro _ ⟨P2, pc2, rfl⟩
          rw [show List.erase [10, 11, 12, 13, 14, 16, 17] 10 = [11, 12, 13, 14, 16, 17] from rfl]; simp only [Act.put, List.setIfInBounds_toArray, List.set_cons_zero, List.set_cons_succ]
          refine TxtT.weakJ (J2 := (fun w' => SrcOk w' p ∧ BxD (some qd) W6.heap.size w' ∧ OwnI w' W6.heap.size (.slice P1 (allI n).length pc1) (allI n) ∧ OwnI w' W6.heap.size (.slice P2 (allI n).length pc2) (allI n))) (fun w1 h => by
            obtain ⟨a0, a1, b0, P2', pc2', e, k0⟩ := h
            obtain ⟨rfl, rfl⟩ := pvC_inj e
            exact ⟨a0, a1, b0, k0⟩) ?_
          obtain ⟨R, hRd⟩ : ∃ R, runG 9 9 l (allI n) (allI n) (1 + d1') (1 + d2') 200 (clm z) = R := ⟨_, rfl⟩
          have HRd := Lib.hid hRd
          clear hRd
          refine TxtT.one 11 (by as_aux_lemma => kernel_rfl) (by rw [List.getElem?_toArray]; rfl) (by rfl) (by rfl) (fun u => ∃ A3 c3 M3 cm3, u = Value.tuple #[.agg #[.int .i64 (n : Int), .slice A3 l.length c3, .int .i64 z, .int .i64 9, .int .i64 9, .slice M3 R.length cm3], .int .i64 0]) (fun u w' => SrcOk w' p ∧ BxD (some qd) W6.heap.size w' ∧ ∃ A3 c3 M3 cm3, u = Value.tuple #[.agg #[.int .i64 (n : Int), .slice A3 l.length c3, .int .i64 z, .int .i64 9, .int .i64 9, .slice M3 R.length cm3], .int .i64 0] ∧ OwnP w' W6.heap.size (.slice A3 l.length c3) l ∧ OwnM w' W6.heap.size (.slice M3 R.length cm3) R) (fun w1 hS1 hJ1 => ?_) ?_
          · obtain ⟨hs0, hx0, hr0, hr1⟩ := hJ1
            refine Eff.call (f := 9) (args := #[.agg #[.int .i64 (n : Int), .slice A2 l.length c2, .int .i64 z, .int .i64 9, .int .i64 9, .slice M2 1 cm2], .agg #[.slice P1 (allI n).length pc1, .slice none 0 0, .slice none 0 0, .int .i64 (1 + d1')], .agg #[.slice P2 (allI n).length pc2, .slice none 0 0, .slice none 0 0, .int .i64 (1 + d2')]]) (by go_simp) ((run_any n A2 l c2 z 9 9 M2 (clm z) cm2 P1 (allI n) pc1 (1 + d1') P2 (allI n) pc2 (1 + d2') w1 (Hrp2.out.grownQ hS1.grown HA2p.out) Han2.out HV.out.1 hll (Hrm2.out.grown hS1.grown HM2p.out) (clm_ok z) (by rw [clm_len]; omega) (own_ri hr0) (by rw [allI_len]; omega) (allI_asc n) (by omega) (by omega) (own_ri hr1) (by rw [allI_len]; omega) (allI_asc n) (by omega) (by omega)).mono ?_)
            rw [HRd.out]
            rintro e w' ⟨A3, c3, M3, cm3, rfl, ho, hm, hb⟩
            exact ⟨_, rfl, hS1.trans (Near.of_below (hb.mono hS1.size)), ⟨A3, c3, M3, cm3, rfl⟩, hs0.kept hb, BxD.below hx0 hb, A3, c3, M3, cm3, rfl, ownsRow_mono ho hS1.size, hm.mono hS1.size⟩
          rintro _ ⟨A3, c3, M3, cm3, rfl⟩
          rw [show List.erase [11, 12, 13, 14, 16, 17] 11 = [12, 13, 14, 16, 17] from rfl]; simp only [Act.put, List.setIfInBounds_toArray, List.set_cons_zero, List.set_cons_succ]
          refine TxtT.weakJ (J2 := (fun w' => SrcOk w' p ∧ BxD (some qd) W6.heap.size w' ∧ OwnP w' W6.heap.size (.slice A3 l.length c3) l ∧ OwnM w' W6.heap.size (.slice M3 R.length cm3) R)) (fun w1 h => by
            obtain ⟨a0, a1, A3', c3', M3', cm3', e, k0, k1⟩ := h
            obtain ⟨rfl, rfl, rfl, rfl⟩ := tvC_inj e
            exact ⟨a0, a1, k0, k1⟩) ?_
          refine TxtT.pure 12 (by rfl) (by rw [List.getElem?_toArray]; rfl) (by rfl) (by as_aux_lemma => kernel_rfl) (by rfl) ?_; apply Exists.intro; refine ⟨fun w1 hS1 => ?_, ?_⟩; (focus (skip; go_simp; with_reducible rfl))
          rw [show List.erase [12, 13, 14, 16, 17] 12 = [13, 14, 16, 17] from rfl]; simp only [Act.put, List.setIfInBounds_toArray, List.set_cons_zero, List.set_cons_succ]
          refine TxtT.pure 13 (by rfl) (by rw [List.getElem?_toArray]; rfl) (by rfl) (by as_aux_lemma => kernel_rfl) (by rfl) ?_; apply Exists.intro; refine ⟨fun w1 hS1 => ?_, ?_⟩; (focus (skip; go_simp; with_reducible rfl))
          rw [show List.erase [13, 14, 16, 17] 13 = [14, 16, 17] from rfl]; simp only [Act.put, List.setIfInBounds_toArray, List.set_cons_zero, List.set_cons_succ]
          refine TxtT.pure 14 (by rfl) (by rw [List.getElem?_toArray]; rfl) (by rfl) (by as_aux_lemma => kernel_rfl) (by rfl) ?_; apply Exists.intro; refine ⟨fun w1 hS1 => ?_, ?_⟩; (focus (skip; go_simp; with_reducible rfl))
          rw [show List.erase [14, 16, 17] 14 = [16, 17] from rfl]; simp only [Act.put, List.setIfInBounds_toArray, List.set_cons_zero, List.set_cons_succ]
          refine TxtT.one 16 (by as_aux_lemma => kernel_rfl) (by rw [List.getElem?_toArray]; rfl) (by rfl) (by rfl) (fun v => v = undef) (fun _ w' => W6.heap.size ≤ qd ∧ Blk w' qd 34 #[.int .i64 (n : Int), .slice A3 l.length c3, .int .i64 z, .int .i64 9, .int .i64 9, .slice M3 R.length cm3] ∧ OwnP w' W6.heap.size (.slice A3 l.length c3) l ∧ OwnM w' W6.heap.size (.slice M3 R.length cm3) R ∧ SrcOk w' p) (fun w1 hS1 hJ1 => ?_) ?_
          · obtain ⟨hs0, hx0, hr0, hr1⟩ := hJ1
            obtain ⟨hq, hk⟩ := hx0 qd rfl
            obtain ⟨g0, g1, g2, g3, g4, g5⟩ := dgC hk
            obtain ⟨f0, f1, f2, f3, f4, f5⟩ := dgF hk
            exact Eff.skip (w' := (((((w1.setCell ⟨qd, 0, none⟩ (.int .i64 (n : Int))).setCell ⟨qd, 1, none⟩ (.slice A3 l.length c3)).setCell ⟨qd, 2, none⟩ (.int .i64 z)).setCell ⟨qd, 3, none⟩ (.int .i64 9)).setCell ⟨qd, 4, none⟩ (.int .i64 9)).setCell ⟨qd, 5, none⟩ (.slice M3 R.length cm3)) (by go_simp) ⟨near_set6o hS1 hq .., rfl, hq, set6 hk .., own_set6c hr0 hk (by decide) .., own_set6c hr1 hk (by decide) .., src_set6 hs0 (by omega) ..⟩
          rintro _ rfl
          rw [show List.erase [16, 17] 16 = [17] from rfl]; simp only [Act.put]
          refine TxtT.pure 17 (by rfl) (by rw [List.getElem?_toArray]; rfl) (by rfl) (by as_aux_lemma => kernel_rfl) (by rfl) ?_; apply Exists.intro; refine ⟨fun w1 hS1 => ?_, ?_⟩; (focus (skip; go_simp; with_reducible rfl))
          rw [show List.erase [17] 17 = [] from rfl]; simp only [Act.put, List.setIfInBounds_toArray, List.set_cons_zero, List.set_cons_succ]
          refine ⟨rfl, fun w1 hS1 hJ1 => ?_⟩
          have hpl := PlayL.run (p1 := allI n) (p2 := allI n) (s1 := 1 + d1') (s2 := 1 + d2') 200 (clm z) (PlayL.ofClm 9 9 l z)
          rw [HRd.out] at hpl
          go_wp2_with fail
          go_meet
          exact ⟨qd, R, A3, c3, M3, cm3, rfl, rfl, hpl, hJ1.1, hJ1.2.1, hJ1.2.2.1, hJ1.2.2.2.1, hJ1.2.2.2.2, hS1⟩
      · as_aux_lemma =>
        rintro _ ⟨qd, rfl⟩
        rw [show List.erase [5, 8, 9, 10, 11, 12, 13, 14, 15, 16, 17] 15 = [5, 8, 9, 10, 11, 12, 13, 14, 16, 17] from rfl]; simp only [Act.put, List.setIfInBounds_toArray, List.set_cons_zero, List.set_cons_succ]
        refine TxtT.weakJ (J2 := (fun w' => SrcOk w' p ∧ BxD (some qd) W6.heap.size w')) (fun w1 h => by obtain ⟨q', hq, h⟩ := h; injection hq with hq; injection hq with hq; injection hq with hq _ _; subst hq; exact h) ?_
        refine TxtT.one 5 (by as_aux_lemma => kernel_rfl) (by rw [List.getElem?_toArray]; rfl) (by rfl) (by rfl) (fun u => ∃ P1 pc1, u = Value.agg #[.slice P1 (allI n).length pc1, .slice none 0 0, .slice none 0 0, .int .i64 (1 + d1')]) (fun u w' => SrcOk w' p ∧ BxD (some qd) W6.heap.size w' ∧ ∃ P1 pc1, u = Value.agg #[.slice P1 (allI n).length pc1, .slice none 0 0, .slice none 0 0, .int .i64 (1 + d1')] ∧ OwnI w' W6.heap.size (.slice P1 (allI n).length pc1) (allI n)) (fun w1 hS1 hJ1 => ?_) ?_
        · obtain ⟨hs0, hx0⟩ := hJ1
          refine Eff.call (f := 10) (args := #[.agg #[.int .i64 (n : Int), .slice AL l.length cl], .int .i64 (1 + d1')]) (by go_simp) ((full_any AL n l cl (1 + d1') w1 (Hrp6.out.grownQ hS1.grown HAp.out) HV.out).mono ?_)
          rintro e w' ⟨P1, pc1, rfl, ho, hb⟩
          exact ⟨_, rfl, hS1.trans (Near.of_below (hb.mono hS1.size)), ⟨P1, pc1, rfl⟩, hs0.kept hb, BxD.below hx0 hb, P1, pc1, rfl, ownsRow_mono ho hS1.size⟩
        rintro _ ⟨P1, pc1, rfl⟩
        rw [show List.erase [5, 8, 9, 10, 11, 12, 13, 14, 16, 17] 5 = [8, 9, 10, 11, 12, 13, 14, 16, 17] from rfl]; simp only [Act.put, List.setIfInBounds_toArray, List.set_cons_zero, List.set_cons_succ]
        refine TxtT.weakJ (J2 := (fun w' => SrcOk w' p ∧ BxD (some qd) W6.heap.size w' ∧ OwnI w' W6.heap.size (.slice P1 (allI n).length pc1) (allI n))) (fun w1 h => by
          obtain ⟨a0, a1, P1', pc1', e, k0⟩ := h
          obtain ⟨rfl, rfl⟩ := pvC_inj e
          exact ⟨a0, a1, k0⟩) ?_
        refine TxtT.one 8 (by as_aux_lemma => kernel_rfl) (by rw [List.getElem?_toArray]; rfl) (by rfl) (by rfl) (fun u => ∃ d2' : Int, u = Value.int .i64 d2' ∧ 0 ≤ d2' ∧ d2' ≤ 2) (fun _ w' => SrcOk w' p ∧ BxD (some qd) W6.heap.size w' ∧ OwnI w' W6.heap.size (.slice P1 (allI n).length pc1) (allI n)) (fun w1 hS1 hJ1 => ?_) ?_
        · obtain ⟨hs0, hx0, hr0⟩ := hJ1
          refine Eff.call (f := 8) (args := #[.pointer (some ⟨p, 0, none⟩), .int .i64 3]) (by go_simp) ((n_any p 3 w1 hs0 (by omega) (by omega)).mono ?_)
          rintro e w' ⟨d2', rfl, h1, h2, hs, hg⟩
          exact ⟨_, rfl, hS1.trans (Near.of_grown hg hS1.size), ⟨d2', rfl, h1, by omega⟩, hs, BxD.grown hx0 hg hpW, ownsRow_far hr0 hg hpW⟩
        rintro _ ⟨d2', rfl, hd2'0, hd2'1⟩
        rw [show List.erase [8, 9, 10, 11, 12, 13, 14, 16, 17] 8 = [9, 10, 11, 12, 13, 14, 16, 17] from rfl]; simp only [Act.put, List.setIfInBounds_toArray, List.set_cons_zero, List.set_cons_succ]
        refine TxtT.pure 9 (by rfl) (by rw [List.getElem?_toArray]; rfl) (by rfl) (by as_aux_lemma => kernel_rfl) (by rfl) ?_; apply Exists.intro; refine ⟨fun w1 hS1 => ?_, ?_⟩; (focus ((have hw2 : IntKind.i64.wrap (1 + d2') = 1 + d2' := by rw [IntKind.wrap_i64]; omega); go_simp; with_reducible rfl))
        rw [show List.erase [9, 10, 11, 12, 13, 14, 16, 17] 9 = [10, 11, 12, 13, 14, 16, 17] from rfl]; simp only [Act.put, List.setIfInBounds_toArray, List.set_cons_zero, List.set_cons_succ]
        refine TxtT.one 10 (by as_aux_lemma => kernel_rfl) (by rw [List.getElem?_toArray]; rfl) (by rfl) (by rfl) (fun u => ∃ P2 pc2, u = Value.agg #[.slice P2 (allI n).length pc2, .slice none 0 0, .slice none 0 0, .int .i64 (1 + d2')]) (fun u w' => SrcOk w' p ∧ BxD (some qd) W6.heap.size w' ∧ OwnI w' W6.heap.size (.slice P1 (allI n).length pc1) (allI n) ∧ ∃ P2 pc2, u = Value.agg #[.slice P2 (allI n).length pc2, .slice none 0 0, .slice none 0 0, .int .i64 (1 + d2')] ∧ OwnI w' W6.heap.size (.slice P2 (allI n).length pc2) (allI n)) (fun w1 hS1 hJ1 => ?_) ?_
        · obtain ⟨hs0, hx0, hr0⟩ := hJ1
          refine Eff.call (f := 10) (args := #[.agg #[.int .i64 (n : Int), .slice AL l.length cl], .int .i64 (1 + d2')]) (by go_simp) ((full_any AL n l cl (1 + d2') w1 (Hrp6.out.grownQ hS1.grown HAp.out) HV.out).mono ?_)
          rintro e w' ⟨P2, pc2, rfl, ho, hb⟩
          exact ⟨_, rfl, hS1.trans (Near.of_below (hb.mono hS1.size)), ⟨P2, pc2, rfl⟩, hs0.kept hb, BxD.below hx0 hb, ownsRow_below hr0 hb, P2, pc2, rfl, ownsRow_mono ho hS1.size⟩
        rintro _ ⟨P2, pc2, rfl⟩
        rw [show List.erase [10, 11, 12, 13, 14, 16, 17] 10 = [11, 12, 13, 14, 16, 17] from rfl]; simp only [Act.put, List.setIfInBounds_toArray, List.set_cons_zero, List.set_cons_succ]
        refine TxtT.weakJ (J2 := (fun w' => SrcOk w' p ∧ BxD (some qd) W6.heap.size w' ∧ OwnI w' W6.heap.size (.slice P1 (allI n).length pc1) (allI n) ∧ OwnI w' W6.heap.size (.slice P2 (allI n).length pc2) (allI n))) (fun w1 h => by
          obtain ⟨a0, a1, b0, P2', pc2', e, k0⟩ := h
          obtain ⟨rfl, rfl⟩ := pvC_inj e
          exact ⟨a0, a1, b0, k0⟩) ?_
        obtain ⟨R, hRd⟩ : ∃ R, runG 9 9 l (allI n) (allI n) (1 + d1') (1 + d2') 200 (clm z) = R := ⟨_, rfl⟩
        have HRd := Lib.hid hRd
        clear hRd
        refine TxtT.one 11 (by as_aux_lemma => kernel_rfl) (by rw [List.getElem?_toArray]; rfl) (by rfl) (by rfl) (fun u => ∃ A3 c3 M3 cm3, u = Value.tuple #[.agg #[.int .i64 (n : Int), .slice A3 l.length c3, .int .i64 z, .int .i64 9, .int .i64 9, .slice M3 R.length cm3], .int .i64 0]) (fun u w' => SrcOk w' p ∧ BxD (some qd) W6.heap.size w' ∧ ∃ A3 c3 M3 cm3, u = Value.tuple #[.agg #[.int .i64 (n : Int), .slice A3 l.length c3, .int .i64 z, .int .i64 9, .int .i64 9, .slice M3 R.length cm3], .int .i64 0] ∧ OwnP w' W6.heap.size (.slice A3 l.length c3) l ∧ OwnM w' W6.heap.size (.slice M3 R.length cm3) R) (fun w1 hS1 hJ1 => ?_) ?_
        · obtain ⟨hs0, hx0, hr0, hr1⟩ := hJ1
          refine Eff.call (f := 9) (args := #[.agg #[.int .i64 (n : Int), .slice A2 l.length c2, .int .i64 z, .int .i64 9, .int .i64 9, .slice M2 1 cm2], .agg #[.slice P1 (allI n).length pc1, .slice none 0 0, .slice none 0 0, .int .i64 (1 + d1')], .agg #[.slice P2 (allI n).length pc2, .slice none 0 0, .slice none 0 0, .int .i64 (1 + d2')]]) (by go_simp) ((run_any n A2 l c2 z 9 9 M2 (clm z) cm2 P1 (allI n) pc1 (1 + d1') P2 (allI n) pc2 (1 + d2') w1 (Hrp2.out.grownQ hS1.grown HA2p.out) Han2.out HV.out.1 hll (Hrm2.out.grown hS1.grown HM2p.out) (clm_ok z) (by rw [clm_len]; omega) (own_ri hr0) (by rw [allI_len]; omega) (allI_asc n) (by omega) (by omega) (own_ri hr1) (by rw [allI_len]; omega) (allI_asc n) (by omega) (by omega)).mono ?_)
          rw [HRd.out]
          rintro e w' ⟨A3, c3, M3, cm3, rfl, ho, hm, hb⟩
          exact ⟨_, rfl, hS1.trans (Near.of_below (hb.mono hS1.size)), ⟨A3, c3, M3, cm3, rfl⟩, hs0.kept hb, BxD.below hx0 hb, A3, c3, M3, cm3, rfl, ownsRow_mono ho hS1.size, hm.mono hS1.size⟩
        rintro _ ⟨A3, c3, M3, cm3, rfl⟩
        rw [show List.erase [11, 12, 13, 14, 16, 17] 11 = [12, 13, 14, 16, 17] from rfl]; simp only [Act.put, List.setIfInBounds_toArray, List.set_cons_zero, List.set_cons_succ]
        refine TxtT.weakJ (J2 := (fun w' => SrcOk w' p ∧ BxD (some qd) W6.heap.size w' ∧ OwnP w' W6.heap.size (.slice A3 l.length c3) l ∧ OwnM w' W6.heap.size (.slice M3 R.length cm3) R)) (fun w1 h => by
          obtain ⟨a0, a1, A3', c3', M3', cm3', e, k0, k1⟩ := h
          obtain ⟨rfl, rfl, rfl, rfl⟩ := tvC_inj e
          exact ⟨a0, a1, k0, k1⟩) ?_
        refine TxtT.pure 12 (by rfl) (by rw [List.getElem?_toArray]; rfl) (by rfl) (by as_aux_lemma => kernel_rfl) (by rfl) ?_; apply Exists.intro; refine ⟨fun w1 hS1 => ?_, ?_⟩; (focus (skip; go_simp; with_reducible rfl))
        rw [show List.erase [12, 13, 14, 16, 17] 12 = [13, 14, 16, 17] from rfl]; simp only [Act.put, List.setIfInBounds_toArray, List.set_cons_zero, List.set_cons_succ]
        refine TxtT.pure 13 (by rfl) (by rw [List.getElem?_toArray]; rfl) (by rfl) (by as_aux_lemma => kernel_rfl) (by rfl) ?_; apply Exists.intro; refine ⟨fun w1 hS1 => ?_, ?_⟩; (focus (skip; go_simp; with_reducible rfl))
        rw [show List.erase [13, 14, 16, 17] 13 = [14, 16, 17] from rfl]; simp only [Act.put, List.setIfInBounds_toArray, List.set_cons_zero, List.set_cons_succ]
        refine TxtT.pure 14 (by rfl) (by rw [List.getElem?_toArray]; rfl) (by rfl) (by as_aux_lemma => kernel_rfl) (by rfl) ?_; apply Exists.intro; refine ⟨fun w1 hS1 => ?_, ?_⟩; (focus (skip; go_simp; with_reducible rfl))
        rw [show List.erase [14, 16, 17] 14 = [16, 17] from rfl]; simp only [Act.put, List.setIfInBounds_toArray, List.set_cons_zero, List.set_cons_succ]
        refine TxtT.one 16 (by as_aux_lemma => kernel_rfl) (by rw [List.getElem?_toArray]; rfl) (by rfl) (by rfl) (fun v => v = undef) (fun _ w' => W6.heap.size ≤ qd ∧ Blk w' qd 34 #[.int .i64 (n : Int), .slice A3 l.length c3, .int .i64 z, .int .i64 9, .int .i64 9, .slice M3 R.length cm3] ∧ OwnP w' W6.heap.size (.slice A3 l.length c3) l ∧ OwnM w' W6.heap.size (.slice M3 R.length cm3) R ∧ SrcOk w' p) (fun w1 hS1 hJ1 => ?_) ?_
        · obtain ⟨hs0, hx0, hr0, hr1⟩ := hJ1
          obtain ⟨hq, hk⟩ := hx0 qd rfl
          obtain ⟨g0, g1, g2, g3, g4, g5⟩ := dgC hk
          obtain ⟨f0, f1, f2, f3, f4, f5⟩ := dgF hk
          exact Eff.skip (w' := (((((w1.setCell ⟨qd, 0, none⟩ (.int .i64 (n : Int))).setCell ⟨qd, 1, none⟩ (.slice A3 l.length c3)).setCell ⟨qd, 2, none⟩ (.int .i64 z)).setCell ⟨qd, 3, none⟩ (.int .i64 9)).setCell ⟨qd, 4, none⟩ (.int .i64 9)).setCell ⟨qd, 5, none⟩ (.slice M3 R.length cm3)) (by go_simp) ⟨near_set6o hS1 hq .., rfl, hq, set6 hk .., own_set6c hr0 hk (by decide) .., own_set6c hr1 hk (by decide) .., src_set6 hs0 (by omega) ..⟩
        rintro _ rfl
        rw [show List.erase [16, 17] 16 = [17] from rfl]; simp only [Act.put]
        refine TxtT.pure 17 (by rfl) (by rw [List.getElem?_toArray]; rfl) (by rfl) (by as_aux_lemma => kernel_rfl) (by rfl) ?_; apply Exists.intro; refine ⟨fun w1 hS1 => ?_, ?_⟩; (focus (skip; go_simp; with_reducible rfl))
        rw [show List.erase [17] 17 = [] from rfl]; simp only [Act.put, List.setIfInBounds_toArray, List.set_cons_zero, List.set_cons_succ]
        refine ⟨rfl, fun w1 hS1 hJ1 => ?_⟩
        have hpl := PlayL.run (p1 := allI n) (p2 := allI n) (s1 := 1 + d1') (s2 := 1 + d2') 200 (clm z) (PlayL.ofClm 9 9 l z)
        rw [HRd.out] at hpl
        go_wp2_with fail
        go_meet
        exact ⟨qd, R, A3, c3, M3, cm3, rfl, rfl, hpl, hJ1.1, hJ1.2.1, hJ1.2.2.1, hJ1.2.2.2.1, hJ1.2.2.2.2, hS1⟩
    · as_aux_lemma =>
      rintro _ ⟨qd, rfl⟩
      rw [show List.erase [3, 4, 5, 8, 9, 10, 11, 12, 13, 14, 15, 16, 17] 15 = [3, 4, 5, 8, 9, 10, 11, 12, 13, 14, 16, 17] from rfl]; simp only [Act.put, List.setIfInBounds_toArray, List.set_cons_zero, List.set_cons_succ]
      refine TxtT.weakJ (J2 := (fun w' => SrcOk w' p ∧ BxD (some qd) W6.heap.size w')) (fun w1 h => by obtain ⟨q', hq, h⟩ := h; injection hq with hq; injection hq with hq; injection hq with hq _ _; subst hq; exact h) ?_
      refine TxtT.one 3 (by as_aux_lemma => kernel_rfl) (by rw [List.getElem?_toArray]; rfl) (by rfl) (by rfl) (fun u => ∃ d1' : Int, u = Value.int .i64 d1' ∧ 0 ≤ d1' ∧ d1' ≤ 2) (fun _ w' => SrcOk w' p ∧ BxD (some qd) W6.heap.size w') (fun w1 hS1 hJ1 => ?_) ?_
      · obtain ⟨hs0, hx0⟩ := hJ1
        refine Eff.call (f := 8) (args := #[.pointer (some ⟨p, 0, none⟩), .int .i64 3]) (by go_simp) ((n_any p 3 w1 hs0 (by omega) (by omega)).mono ?_)
        rintro e w' ⟨d1', rfl, h1, h2, hs, hg⟩
        exact ⟨_, rfl, hS1.trans (Near.of_grown hg hS1.size), ⟨d1', rfl, h1, by omega⟩, hs, BxD.grown hx0 hg hpW⟩
      rintro _ ⟨d1', rfl, hd1'0, hd1'1⟩
      rw [show List.erase [3, 4, 5, 8, 9, 10, 11, 12, 13, 14, 16, 17] 3 = [4, 5, 8, 9, 10, 11, 12, 13, 14, 16, 17] from rfl]; simp only [Act.put, List.setIfInBounds_toArray, List.set_cons_zero, List.set_cons_succ]
      refine TxtT.pure 4 (by rfl) (by rw [List.getElem?_toArray]; rfl) (by rfl) (by as_aux_lemma => kernel_rfl) (by rfl) ?_; apply Exists.intro; refine ⟨fun w1 hS1 => ?_, ?_⟩; (focus ((have hw1 : IntKind.i64.wrap (1 + d1') = 1 + d1' := by rw [IntKind.wrap_i64]; omega); go_simp; with_reducible rfl))
      rw [show List.erase [4, 5, 8, 9, 10, 11, 12, 13, 14, 16, 17] 4 = [5, 8, 9, 10, 11, 12, 13, 14, 16, 17] from rfl]; simp only [Act.put, List.setIfInBounds_toArray, List.set_cons_zero, List.set_cons_succ]
      refine TxtT.one 5 (by as_aux_lemma => kernel_rfl) (by rw [List.getElem?_toArray]; rfl) (by rfl) (by rfl) (fun u => ∃ P1 pc1, u = Value.agg #[.slice P1 (allI n).length pc1, .slice none 0 0, .slice none 0 0, .int .i64 (1 + d1')]) (fun u w' => SrcOk w' p ∧ BxD (some qd) W6.heap.size w' ∧ ∃ P1 pc1, u = Value.agg #[.slice P1 (allI n).length pc1, .slice none 0 0, .slice none 0 0, .int .i64 (1 + d1')] ∧ OwnI w' W6.heap.size (.slice P1 (allI n).length pc1) (allI n)) (fun w1 hS1 hJ1 => ?_) ?_
      · obtain ⟨hs0, hx0⟩ := hJ1
        refine Eff.call (f := 10) (args := #[.agg #[.int .i64 (n : Int), .slice AL l.length cl], .int .i64 (1 + d1')]) (by go_simp) ((full_any AL n l cl (1 + d1') w1 (Hrp6.out.grownQ hS1.grown HAp.out) HV.out).mono ?_)
        rintro e w' ⟨P1, pc1, rfl, ho, hb⟩
        exact ⟨_, rfl, hS1.trans (Near.of_below (hb.mono hS1.size)), ⟨P1, pc1, rfl⟩, hs0.kept hb, BxD.below hx0 hb, P1, pc1, rfl, ownsRow_mono ho hS1.size⟩
      rintro _ ⟨P1, pc1, rfl⟩
      rw [show List.erase [5, 8, 9, 10, 11, 12, 13, 14, 16, 17] 5 = [8, 9, 10, 11, 12, 13, 14, 16, 17] from rfl]; simp only [Act.put, List.setIfInBounds_toArray, List.set_cons_zero, List.set_cons_succ]
      refine TxtT.weakJ (J2 := (fun w' => SrcOk w' p ∧ BxD (some qd) W6.heap.size w' ∧ OwnI w' W6.heap.size (.slice P1 (allI n).length pc1) (allI n))) (fun w1 h => by
        obtain ⟨a0, a1, P1', pc1', e, k0⟩ := h
        obtain ⟨rfl, rfl⟩ := pvC_inj e
        exact ⟨a0, a1, k0⟩) ?_
      refine TxtT.one 8 (by as_aux_lemma => kernel_rfl) (by rw [List.getElem?_toArray]; rfl) (by rfl) (by rfl) (fun u => ∃ d2' : Int, u = Value.int .i64 d2' ∧ 0 ≤ d2' ∧ d2' ≤ 2) (fun _ w' => SrcOk w' p ∧ BxD (some qd) W6.heap.size w' ∧ OwnI w' W6.heap.size (.slice P1 (allI n).length pc1) (allI n)) (fun w1 hS1 hJ1 => ?_) ?_
      · obtain ⟨hs0, hx0, hr0⟩ := hJ1
        refine Eff.call (f := 8) (args := #[.pointer (some ⟨p, 0, none⟩), .int .i64 3]) (by go_simp) ((n_any p 3 w1 hs0 (by omega) (by omega)).mono ?_)
        rintro e w' ⟨d2', rfl, h1, h2, hs, hg⟩
        exact ⟨_, rfl, hS1.trans (Near.of_grown hg hS1.size), ⟨d2', rfl, h1, by omega⟩, hs, BxD.grown hx0 hg hpW, ownsRow_far hr0 hg hpW⟩
      rintro _ ⟨d2', rfl, hd2'0, hd2'1⟩
      rw [show List.erase [8, 9, 10, 11, 12, 13, 14, 16, 17] 8 = [9, 10, 11, 12, 13, 14, 16, 17] from rfl]; simp only [Act.put, List.setIfInBounds_toArray, List.set_cons_zero, List.set_cons_succ]
      refine TxtT.pure 9 (by rfl) (by rw [List.getElem?_toArray]; rfl) (by rfl) (by as_aux_lemma => kernel_rfl) (by rfl) ?_; apply Exists.intro; refine ⟨fun w1 hS1 => ?_, ?_⟩; (focus ((have hw2 : IntKind.i64.wrap (1 + d2') = 1 + d2' := by rw [IntKind.wrap_i64]; omega); go_simp; with_reducible rfl))
      rw [show List.erase [9, 10, 11, 12, 13, 14, 16, 17] 9 = [10, 11, 12, 13, 14, 16, 17] from rfl]; simp only [Act.put, List.setIfInBounds_toArray, List.set_cons_zero, List.set_cons_succ]
      refine TxtT.one 10 (by as_aux_lemma => kernel_rfl) (by rw [List.getElem?_toArray]; rfl) (by rfl) (by rfl) (fun u => ∃ P2 pc2, u = Value.agg #[.slice P2 (allI n).length pc2, .slice none 0 0, .slice none 0 0, .int .i64 (1 + d2')]) (fun u w' => SrcOk w' p ∧ BxD (some qd) W6.heap.size w' ∧ OwnI w' W6.heap.size (.slice P1 (allI n).length pc1) (allI n) ∧ ∃ P2 pc2, u = Value.agg #[.slice P2 (allI n).length pc2, .slice none 0 0, .slice none 0 0, .int .i64 (1 + d2')] ∧ OwnI w' W6.heap.size (.slice P2 (allI n).length pc2) (allI n)) (fun w1 hS1 hJ1 => ?_) ?_
      · obtain ⟨hs0, hx0, hr0⟩ := hJ1
        refine Eff.call (f := 10) (args := #[.agg #[.int .i64 (n : Int), .slice AL l.length cl], .int .i64 (1 + d2')]) (by go_simp) ((full_any AL n l cl (1 + d2') w1 (Hrp6.out.grownQ hS1.grown HAp.out) HV.out).mono ?_)
        rintro e w' ⟨P2, pc2, rfl, ho, hb⟩
        exact ⟨_, rfl, hS1.trans (Near.of_below (hb.mono hS1.size)), ⟨P2, pc2, rfl⟩, hs0.kept hb, BxD.below hx0 hb, ownsRow_below hr0 hb, P2, pc2, rfl, ownsRow_mono ho hS1.size⟩
      rintro _ ⟨P2, pc2, rfl⟩
      rw [show List.erase [10, 11, 12, 13, 14, 16, 17] 10 = [11, 12, 13, 14, 16, 17] from rfl]; simp only [Act.put, List.setIfInBounds_toArray, List.set_cons_zero, List.set_cons_succ]
      refine TxtT.weakJ (J2 := (fun w' => SrcOk w' p ∧ BxD (some qd) W6.heap.size w' ∧ OwnI w' W6.heap.size (.slice P1 (allI n).length pc1) (allI n) ∧ OwnI w' W6.heap.size (.slice P2 (allI n).length pc2) (allI n))) (fun w1 h => by
        obtain ⟨a0, a1, b0, P2', pc2', e, k0⟩ := h
        obtain ⟨rfl, rfl⟩ := pvC_inj e
        exact ⟨a0, a1, b0, k0⟩) ?_
      obtain ⟨R, hRd⟩ : ∃ R, runG 9 9 l (allI n) (allI n) (1 + d1') (1 + d2') 200 (clm z) = R := ⟨_, rfl⟩
      have HRd := Lib.hid hRd
      clear hRd
      refine TxtT.one 11 (by as_aux_lemma => kernel_rfl) (by rw [List.getElem?_toArray]; rfl) (by rfl) (by rfl) (fun u => ∃ A3 c3 M3 cm3, u = Value.tuple #[.agg #[.int .i64 (n : Int), .slice A3 l.length c3, .int .i64 z, .int .i64 9, .int .i64 9, .slice M3 R.length cm3], .int .i64 0]) (fun u w' => SrcOk w' p ∧ BxD (some qd) W6.heap.size w' ∧ ∃ A3 c3 M3 cm3, u = Value.tuple #[.agg #[.int .i64 (n : Int), .slice A3 l.length c3, .int .i64 z, .int .i64 9, .int .i64 9, .slice M3 R.length cm3], .int .i64 0] ∧ OwnP w' W6.heap.size (.slice A3 l.length c3) l ∧ OwnM w' W6.heap.size (.slice M3 R.length cm3) R) (fun w1 hS1 hJ1 => ?_) ?_
      · obtain ⟨hs0, hx0, hr0, hr1⟩ := hJ1
        refine Eff.call (f := 9) (args := #[.agg #[.int .i64 (n : Int), .slice A2 l.length c2, .int .i64 z, .int .i64 9, .int .i64 9, .slice M2 1 cm2], .agg #[.slice P1 (allI n).length pc1, .slice none 0 0, .slice none 0 0, .int .i64 (1 + d1')], .agg #[.slice P2 (allI n).length pc2, .slice none 0 0, .slice none 0 0, .int .i64 (1 + d2')]]) (by go_simp) ((run_any n A2 l c2 z 9 9 M2 (clm z) cm2 P1 (allI n) pc1 (1 + d1') P2 (allI n) pc2 (1 + d2') w1 (Hrp2.out.grownQ hS1.grown HA2p.out) Han2.out HV.out.1 hll (Hrm2.out.grown hS1.grown HM2p.out) (clm_ok z) (by rw [clm_len]; omega) (own_ri hr0) (by rw [allI_len]; omega) (allI_asc n) (by omega) (by omega) (own_ri hr1) (by rw [allI_len]; omega) (allI_asc n) (by omega) (by omega)).mono ?_)
        rw [HRd.out]
        rintro e w' ⟨A3, c3, M3, cm3, rfl, ho, hm, hb⟩
        exact ⟨_, rfl, hS1.trans (Near.of_below (hb.mono hS1.size)), ⟨A3, c3, M3, cm3, rfl⟩, hs0.kept hb, BxD.below hx0 hb, A3, c3, M3, cm3, rfl, ownsRow_mono ho hS1.size, hm.mono hS1.size⟩
      rintro _ ⟨A3, c3, M3, cm3, rfl⟩
      rw [show List.erase [11, 12, 13, 14, 16, 17] 11 = [12, 13, 14, 16, 17] from rfl]; simp only [Act.put, List.setIfInBounds_toArray, List.set_cons_zero, List.set_cons_succ]
      refine TxtT.weakJ (J2 := (fun w' => SrcOk w' p ∧ BxD (some qd) W6.heap.size w' ∧ OwnP w' W6.heap.size (.slice A3 l.length c3) l ∧ OwnM w' W6.heap.size (.slice M3 R.length cm3) R)) (fun w1 h => by
        obtain ⟨a0, a1, A3', c3', M3', cm3', e, k0, k1⟩ := h
        obtain ⟨rfl, rfl, rfl, rfl⟩ := tvC_inj e
        exact ⟨a0, a1, k0, k1⟩) ?_
      refine TxtT.pure 12 (by rfl) (by rw [List.getElem?_toArray]; rfl) (by rfl) (by as_aux_lemma => kernel_rfl) (by rfl) ?_; apply Exists.intro; refine ⟨fun w1 hS1 => ?_, ?_⟩; (focus (skip; go_simp; with_reducible rfl))
      rw [show List.erase [12, 13, 14, 16, 17] 12 = [13, 14, 16, 17] from rfl]; simp only [Act.put, List.setIfInBounds_toArray, List.set_cons_zero, List.set_cons_succ]
      refine TxtT.pure 13 (by rfl) (by rw [List.getElem?_toArray]; rfl) (by rfl) (by as_aux_lemma => kernel_rfl) (by rfl) ?_; apply Exists.intro; refine ⟨fun w1 hS1 => ?_, ?_⟩; (focus (skip; go_simp; with_reducible rfl))
      rw [show List.erase [13, 14, 16, 17] 13 = [14, 16, 17] from rfl]; simp only [Act.put, List.setIfInBounds_toArray, List.set_cons_zero, List.set_cons_succ]
      refine TxtT.pure 14 (by rfl) (by rw [List.getElem?_toArray]; rfl) (by rfl) (by as_aux_lemma => kernel_rfl) (by rfl) ?_; apply Exists.intro; refine ⟨fun w1 hS1 => ?_, ?_⟩; (focus (skip; go_simp; with_reducible rfl))
      rw [show List.erase [14, 16, 17] 14 = [16, 17] from rfl]; simp only [Act.put, List.setIfInBounds_toArray, List.set_cons_zero, List.set_cons_succ]
      refine TxtT.one 16 (by as_aux_lemma => kernel_rfl) (by rw [List.getElem?_toArray]; rfl) (by rfl) (by rfl) (fun v => v = undef) (fun _ w' => W6.heap.size ≤ qd ∧ Blk w' qd 34 #[.int .i64 (n : Int), .slice A3 l.length c3, .int .i64 z, .int .i64 9, .int .i64 9, .slice M3 R.length cm3] ∧ OwnP w' W6.heap.size (.slice A3 l.length c3) l ∧ OwnM w' W6.heap.size (.slice M3 R.length cm3) R ∧ SrcOk w' p) (fun w1 hS1 hJ1 => ?_) ?_
      · obtain ⟨hs0, hx0, hr0, hr1⟩ := hJ1
        obtain ⟨hq, hk⟩ := hx0 qd rfl
        obtain ⟨g0, g1, g2, g3, g4, g5⟩ := dgC hk
        obtain ⟨f0, f1, f2, f3, f4, f5⟩ := dgF hk
        exact Eff.skip (w' := (((((w1.setCell ⟨qd, 0, none⟩ (.int .i64 (n : Int))).setCell ⟨qd, 1, none⟩ (.slice A3 l.length c3)).setCell ⟨qd, 2, none⟩ (.int .i64 z)).setCell ⟨qd, 3, none⟩ (.int .i64 9)).setCell ⟨qd, 4, none⟩ (.int .i64 9)).setCell ⟨qd, 5, none⟩ (.slice M3 R.length cm3)) (by go_simp) ⟨near_set6o hS1 hq .., rfl, hq, set6 hk .., own_set6c hr0 hk (by decide) .., own_set6c hr1 hk (by decide) .., src_set6 hs0 (by omega) ..⟩
      rintro _ rfl
      rw [show List.erase [16, 17] 16 = [17] from rfl]; simp only [Act.put]
      refine TxtT.pure 17 (by rfl) (by rw [List.getElem?_toArray]; rfl) (by rfl) (by as_aux_lemma => kernel_rfl) (by rfl) ?_; apply Exists.intro; refine ⟨fun w1 hS1 => ?_, ?_⟩; (focus (skip; go_simp; with_reducible rfl))
      rw [show List.erase [17] 17 = [] from rfl]; simp only [Act.put, List.setIfInBounds_toArray, List.set_cons_zero, List.set_cons_succ]
      refine ⟨rfl, fun w1 hS1 hJ1 => ?_⟩
      have hpl := PlayL.run (p1 := allI n) (p2 := allI n) (s1 := 1 + d1') (s2 := 1 + d2') 200 (clm z) (PlayL.ofClm 9 9 l z)
      rw [HRd.out] at hpl
      go_wp2_with fail
      go_meet
      exact ⟨qd, R, A3, c3, M3, cm3, rfl, rfl, hpl, hJ1.1, hJ1.2.1, hJ1.2.2.1, hJ1.2.2.2.1, hJ1.2.2.2.2, hS1⟩
  obtain ⟨qx, R, A3, c3, M3, cm3, rfl, rfl, hpl, hqx, hkx, ho3, hm3, hsr, hnr⟩ := hcut
  clear z0 z1 d0 d1 d2 d3 d4 d5 Hrp2 Han2 Hrm2 HA2p HM2p HS
  have hR18 := hpl.len18
  have hRp := hpl.pos
  obtain ⟨x0, x1, x2, x3, x4, x5⟩ := dgC hkx
  have HB7 := Lib.hid (HB6.out.trans ((near_below hnr hpW).mono Hp.out))
  have HS := Lib.hid hsr
  have hpW : p < wc.heap.size := by have := hnr.size; omega
  have Ho3 := Lib.hid ho3; have Hm3 := Lib.hid hm3
  have HP := Lib.hid hpl
  have hge : W6.heap.size ≤ wc.heap.size := hnr.size
  clear hkx ho3 hm3 hsr hnr hpl HB6 Hrp6 hG6 hqd6
  go_wp2_with fail
  refine (record_any n A3 l c3 z 9 9 M3 R cm3 wc (own_rp Ho3.out) (own_nil Ho3.out) hll (own_rm Hm3.out).1 (fun e => by
    obtain ⟨b', o', e', _⟩ := (own_rm Hm3.out).1 0 hRp
    rw [e] at e'; cases e') (by omega)).mono ?_
  rintro e w5 ⟨A4, c4, M4, cm4, rfl, ho4, hm4, hb5⟩
  obtain ⟨g4, hg4, hge4, hcap⟩ := hm4.some_ (fun e => by rw [e] at hRp; simp at hRp)
  subst hg4
  have HS := Lib.hid (HS.out.kept hb5)
  have HB5 := Lib.hid (endB HB7.out hb5)
  have hs5 := hb5.size
  clear x0 x1 x2 x3 x4 x5 HB7 Ho3 Hm3
  go_upto_region 10 with fail
  obtain ⟨W8, hW8, k11, hb8, hs8⟩ := boxedA w5 43 #[.int .i64 (n : Int), .slice A4 l.length c4, .int .i64 z, .int .i64 9, .int .i64 9, .slice (some ⟨g4, 0, none⟩) R.length cm4]
  rw [hW8]
  obtain ⟨y0, y1, y2, y3, y4, y5⟩ := dgC k11
  have Hrm4 := Lib.hid (own_rm (hm4.below hb8)).1
  have Hrp4 := Lib.hid (own_rp (ownsRow_below ho4 hb8))
  have Han4 := Lib.hid (own_nil ho4)
  have HA4p := Lib.hid (show ∀ b o, A4 = some ⟨b, o, none⟩ → 0 < l.length → b ≠ p from fun b o e _ => by have := own_ge ho4 b o e; omega)
  have hg4p : g4 ≠ p := by omega
  have hg48 : g4 < W8.heap.size := by have := (World.ownsRow.lt hm4 g4 rfl).2; omega
  have HS := Lib.hid (HS.out.kept hb8)
  have HB8 := Lib.hid (endB HB5.out hb8)
  have K11 := Lib.hid k11
  have hpW : p < W8.heap.size := by omega
  have hp5 : p ≠ w5.heap.size := by omega
  have Hsm := Lib.hid (HP.out.sm hz0 (by omega) (fun q hq => by have := HV.out.1.2.2 q hq; omega))
  clear hW8 hb8 k11 ho4 hm4 hb5 HB5 hs5
  have hl0 : ((R.take 0).map codeM).length = 0 := by simp
  go_wp2_with fail
  go_loopw [12, 78] (fun v t wr => ∃ (k : Nat) (I2 : Option Addr) (ci2 : Nat), k ≤ R.length ∧ v = .slice I2 k ci2 ∧ t = .int .i64 (k : Int) ∧ OwnI wr W8.heap.size (.slice I2 k ci2) ((R.take k).map codeM) ∧ Below W8.heap.size W8 wr) (fun _ t _ => R.length - (intOf t).toNat)
  case atStart => exact ⟨0, none, 0, Nat.zero_le _, rfl, rfl, OwnI.nil _ _, Below.refl _ _⟩
  case round =>
    obtain ⟨k, I2, ci2, hk, rfl, rfl, hown, hbl⟩ := hrel
    have Hown := Lib.hid hown; have Hbl := Lib.hid hbl
    by_cases hlt : k < R.length
    case pos =>
      as_aux_lemma =>
      have hlt' : (k : Int) < (R.length : Int) := by omega
      have hk0 : (0 : Int) ≤ (k : Int) := by omega
      obtain ⟨e0, e1, e2, e3⟩ := (Hrm4.out.below hbl).cells hlt
      simp only [Nat.zero_add] at e0 e1 e2 e3
      have hsuc : (R.take (k + 1)).map codeM = (R.take k).map codeM ++ [codeM (mv R k)] := by rw [take_next hlt, List.map_append]; rfl
      have hlen : ((R.take k).map codeM).length = k := by rw [List.length_map, List.length_take]; omega
      have hlen1 : ((R.take (k + 1)).map codeM).length = k + 1 := by rw [List.length_map, List.length_take]; omega
      have hsmk := Hsm.out _ (mv_mem hlt)
      have Hsuc := Lib.hid hsuc; have Hlen := Lib.hid hlen; have Hlen1 := Lib.hid hlen1; have Hsmk := Lib.hid hsmk
      generalize mv R k = m at *
      obtain ⟨m0, m1, m2, m3⟩ := m
      simp only at e0 e1 e2 e3
      have hsb := hbl.size
      clear hown hbl hsuc hlen hlen1 hsmk
      go_upto_region 14 with fail
      obtain ⟨wa, hwa, ka, hba, hsa⟩ := boxedA wr 46 #[.int .i64 m0, .int .i64 m1, .int .i64 m2, .int .i64 m3]
      rw [hwa]
      obtain ⟨u0, u1, u2, u3, _, _, _, _⟩ := mvC ka
      have Hba := Lib.hid hba
      clear hwa ka hba e0 e1 e2 e3
      go_wp2_with fail
      refine (code_any (m0, m1, m2, m3) wa Hsmk.out).mono ?_
      rintro e w6 ⟨rfl, hb6⟩
      have Hb6 := Lib.hid (endB Hba.out hb6)
      have hw6 : W8.heap.size ≤ w6.heap.size := by have := hb6.size; omega
      clear hb6 u0 u1 u2 u3
      go_wp2_with (at_builtin; refine wpList_appI2 (by rfl) _ _ (by rfl) w6 W8.heap.size _ ((R.take k).map codeM) (codeM (m0, m1, m2, m3)) (OwnI.below Hown.out Hb6.out) (by rfl) (by rfl) rfl (by rw [Hlen.out]; omega) hw6 ?_; intro v' w7 ho7 hb7 hg7 hl7; rw [← Hsuc.out] at ho7; (obtain ⟨A', c', e', _, _⟩ := OwnI.form2 ho7); rw [Hlen1.out] at e'; subst e'; have Ho7 := Lib.hid ho7; have Hb7 := Lib.hid hb7; clear ho7 hb7 hg7 hl7)
      go_roundw
      case rel => exact ⟨k + 1, A', c', by omega, rfl, by go_num, Ho7.out, Hbl.out.trans ((Hb6.out.mono (by omega)).trans Hb7.out)⟩
      case measure => simp [intOf]; omega
    case neg =>
    obtain rfl : k = R.length := by omega
    rw [List.take_length] at hown
    obtain ⟨its, hits⟩ : ∃ its, R.map codeM = its := ⟨_, rfl⟩
    have hil : its.length = R.length := by rw [← hits, List.length_map]
    rw [hits] at hown
    have Hits := Lib.hid hits
    have Hown := Lib.hid hown
    have hil60 : its.length ≤ 60 := by omega
    have Hil := Lib.hid hil
    have Hri := Lib.hid (show RI wr I2 its ∧ (I2 = none → its = [] ∧ ci2 = 0) ∧ R.length ≤ ci2 from by
      obtain ⟨A', c', e, h1, h2⟩ := OwnI.form2 hown
      injection e with e1 _ e3
      subst e1 e3
      refine ⟨h1, h2, ?_⟩
      rcases hown.2 with ⟨e, hn⟩ | ⟨g, cap, cur, e, hg, hh, hn, _⟩
      · injection e with _ e _; omega
      · injection e with _ e1 e2; omega)
    have hI2 : ∀ b o, I2 = some ⟨b, o, none⟩ → W8.heap.size ≤ b := fun b o e => by subst e; exact (World.ownsRow.lt hown b rfl).1
    have HI2 := Lib.hid hI2
    have HS9 := Lib.hid (HS.out.kept hbl)
    have hpr : p < wr.heap.size := by have := hbl.size; omega
    have hsb := hbl.size
    clear hown hits hil hI2 hbl HS hlt
    go_wp2_with fail
    refine (n_any p 8 wr HS9.out (by omega) (by omega)).mono ?_
    rintro e w9 ⟨d, rfl, hd0, hd1, hs9, hg9⟩
    have hw1 : IntKind.i64.wrap (1 + d) = 1 + d := by rw [IntKind.wrap_i64]; omega
    have hri9 := Hri.out.1.grownC hg9 (fun b o e => by have := HI2.out b o e; omega)
    have hch := chNew_any I2 its ci2 (1 + d) w9 hri9 Hri.out.2.1 hil60 (by omega) (by omega)
    rw [Hil.out] at hch
    obtain ⟨ch, hchd⟩ : ∃ ch, newC its (1 + d) = ch := ⟨_, rfl⟩
    have hci : CI ch := by rw [← hchd]; exact newC_ok hil60 (by omega) (by omega)
    have hcit : ch.items = its := by rw [← hchd]; rfl
    rw [hchd] at hch
    have Hch := Lib.hid hch; have Hci := Lib.hid hci; have Hcit := Lib.hid hcit
    have HS9 := Lib.hid hs9
    have hs9z := hg9.size
    have Hg9 := Lib.hid hg9
    clear hch hci hcit hchd hs9 hg9 hri9
    go_wp2_with fail
    refine Hch.out.mono ?_
    rintro e w10 ⟨I5, ci5, R5, cr5, H5, ch5, F5, cf5, rfl, hcr, hcg, hb10⟩
    have hs10 := hb10.size
    have hp10 : p < w10.heap.size := by omega
    have HS10 := Lib.hid (HS9.out.kept hb10)
    have hgw : wr.grownBy w10 (some p) := grownBy_trans Hg9.out (grownBy_of_below hb10 _)
    have Hgw := Lib.hid (show W8.grownBy w10 (some p) from grownBy_trans (grownBy_of_below Hbl.out _) hgw)
    have Hri10 := Lib.hid (Hri.out.1.grownC hgw (fun b o e => by have := HI2.out b o e; omega))
    have Hcr := Lib.hid hcr; have Hcg := Lib.hid (hcg.mono (by omega : p + 1 ≤ w9.heap.size))
    have h8w : W8.heap.size ≤ w10.heap.size := by omega
    clear hgw hcr hcg Hch Hg9 HS9 hb10 hs10
    go_upto_region 17 with fail
    obtain ⟨w11, hw11, k15, hb11, hs11⟩ := boxedA w10 50 #[.slice I5 ch.items.length ci5, .int .i64 ch.win, .int .i64 ch.base, .slice R5 ch.rc.length cr5, .slice H5 ch.held.length ch5, .slice F5 ch.fl.length cf5]
    rw [hw11]
    have HcrB := Lib.hid (Hcr.out.below hb11)
    have HS11 := Lib.hid (HS10.out.kept hb11)
    have Hn11 := Lib.hid (Near.of_below (p := p) (base := w10.heap.size) hb11)
    have K15 := Lib.hid k15
    -- what stays as it was
    have Hold := Lib.hid (show ∀ wr, Near p w10.heap.size w10 wr → RI wr I2 its ∧ Blk wr w5.heap.size 43 #[.int .i64 (n : Int), .slice A4 l.length c4, .int .i64 z, .int .i64 9, .int .i64 9, .slice (some ⟨g4, 0, none⟩) R.length cm4] ∧ RM wr (some ⟨g4, 0, none⟩) R ∧ RP wr A4 l ∧ Below w.heap.size w wr ∧ RP wr E evs from fun wr hn => by
      have hg := grownBy_trans Hgw.out hn.grown
      have hB : Below w.heap.size w wr := HB8.out.trans ((near_below (B := W8.heap.size) (p := p) (a := W8) (w := wr) ⟨hg.os, hg.tape, hg.output, hg.size, fun k hk hne => hg.block k hk (fun e => hne (by injection e))⟩ hpW).mono Hp.out)
      exact ⟨Hri10.out.grownC hn.grown (fun b o e => by have := HI2.out b o e; omega), K11.out.grown hg (fun e => by injection e; omega), Hrm4.out.grown hg (fun b o e => by injection e with e; injection e with e _ _; omega), Hrp4.out.grownQ hg HA4p.out, hB, HE.out.below hB⟩)
    clear hw11 k15 hb11
    go_wp2_with fail
    go_loopw [17] (fun t wr => ∃ (k : Nat) (ch : Chn) (I : Option Addr) (ci : Nat) (R' : Option Addr) (cr : Nat) (H : Option Addr) (chh : Nat) (F : Option Addr) (cf : Nat), k ≤ 60 ∧ t = .int .i64 (k : Int) ∧ SrcOk wr p ∧ Blk wr w10.heap.size 50 #[.slice I ch.items.length ci, .int .i64 ch.win, .int .i64 ch.base, .slice R' ch.rc.length cr, .slice H ch.held.length chh, .slice F ch.fl.length cf] ∧ ChR wr ch I ci R' cr H chh F cf ∧ ChG (p + 1) I R' H F ∧ CI ch ∧ ch.items = its ∧ Near p w10.heap.size w10 wr) (fun t _ => 60 - (intOf t).toNat)
    case atStart => exact ⟨0, ch, I5, ci5, R5, cr5, H5, ch5, F5, cf5, Nat.zero_le _, rfl, HS11.out, K15.out, HcrB.out, Hcg.out, Hci.out, Hcit.out, Hn11.out⟩
    case round =>
      clear HcrB HS11 K15 Hci Hcit Hcg Hcr Hn11 HS10 Hri10 Hgw K11 Hrm4 Hrp4 HB8 Hown
      obtain ⟨k, ch, I, ci, R', cr, H, chh, F, cf, hk, rfl, hs, k15, hcr, hcg, hci, hcit, hn⟩ := hrel
      obtain ⟨wo, hwo⟩ : ∃ wo, wo = wr := ⟨_, rfl⟩
      subst hwo
      have Hcr := Lib.hid hcr; have Hcg := Lib.hid hcg; have Hci := Lib.hid hci; have Hcit := Lib.hid hcit; have Hn := Lib.hid hn; have K15 := Lib.hid k15; have HS := Lib.hid hs
      have hp15 : p ≠ w10.heap.size := by omega
      have h10r : w10.heap.size < wo.heap.size := k15.lt
      clear hcr hcg hci hcit hn k15 hs
      by_cases hlt : k < 60
      case neg =>
        as_aux_lemma =>
        have hd6 : ¬ (k : Int) < 60 := by omega
        obtain ⟨j0, j1, j2, j3, j4, j5⟩ := dgC K15.out
        go_wp2_with fail
        refine (finish_any ch I ci R' cr H chh F cf wo Hcr.out Hci.out).mono ?_
        rintro e w12 ⟨dd, rr, hdi, hdr, hdb, ⟨I7, ci7, R7, cr7, H7, ch7, F7, cf7, rfl, hcr7, hcg7⟩, hb12⟩
        rw [Hcit.out] at hdi hdr hdb
        have hlen7 : dd.rc.length = R.length := by rw [hdr]; exact Hil.out
        have hdn : (dd.base == (dd.items.length : Int)) = true := by rw [hdb, hdi]; simp
        have Hpre := Lib.hid (show Pre its dd.rc from by rw [hdr]; exact ⟨Nat.le_refl _, (List.take_length ..).symm⟩)
        have Hdn := Lib.hid hdn
        have k15e := K15.out.below hb12 h10r
        have HnE := Lib.hid (Hn.out.trans (Near.of_below (hb12.mono (by omega : w10.heap.size ≤ wo.heap.size))))
        have Hcr7 := Lib.hid hcr7; have Hcg7 := Lib.hid hcg7
        have K15e := Lib.hid k15e
        have hr0 : 0 < dd.rc.length := by omega
        have hrl : dd.rc.length ≤ R.length := by omega
        have Hlen7 := Lib.hid hlen7
        clear hlen7 hdi hdr hdb hdn hcr7 hcg7 hb12 j0 j1 j2 j3 j4 j5 hd6 Hcr Hcg Hci Hcit Hn K15 HS
        obtain ⟨y0, y1, y2, y3, y4, y5⟩ := dgC k15e
        obtain ⟨z0, z1, z2, z3, z4, z5⟩ := dgF k15e
        have hk15f := set6 k15e (.slice I7 dd.items.length ci7) (.int .i64 dd.win) (.int .i64 dd.base) (.slice R7 dd.rc.length cr7) (.slice H7 dd.held.length ch7) (.slice F7 dd.fl.length cf7)
        have hcr8 := Hcr7.out.grownP (Hcg7.out.mono (by omega : w10.heap.size + 1 ≤ wo.heap.size)) (near_set6 (Near.refl w10.heap.size w12.heap.size w12) (.slice I7 dd.items.length ci7) (.int .i64 dd.win) (.int .i64 dd.base) (.slice R7 dd.rc.length cr7) (.slice H7 dd.held.length ch7) (.slice F7 dd.fl.length cf7)).grown
        have hnD := near_set6o HnE.out (Nat.le_refl _) (.slice I7 dd.items.length ci7) (.int .i64 dd.win) (.int .i64 dd.base) (.slice R7 dd.rc.length cr7) (.slice H7 dd.held.length ch7) (.slice F7 dd.fl.length cf7)
        have Hk15f := Lib.hid hk15f; have Hcr8 := Lib.hid hcr8; have HnD := Lib.hid hnD
        clear k15e hk15f hcr8 hnD K15e HnE Hcr7 Hcg7
        go_upto_region 42 with fail
        clear y0 y1 y2 y3 y4 y5 z0 z1 z2 z3 z4 z5
        obtain ⟨WD, hWD⟩ : ∃ W, ((((((w12.setCell ⟨w10.heap.size, 0, none⟩ (.slice I7 dd.items.length ci7)).setCell ⟨w10.heap.size, 1, none⟩ (.int .i64 dd.win)).setCell ⟨w10.heap.size, 2, none⟩ (.int .i64 dd.base)).setCell ⟨w10.heap.size, 3, none⟩ (.slice R7 dd.rc.length cr7)).setCell ⟨w10.heap.size, 4, none⟩ (.slice H7 dd.held.length ch7)).setCell ⟨w10.heap.size, 5, none⟩ (.slice F7 dd.fl.length cf7)) = W := ⟨_, rfl⟩
        rw [hWD] at Hk15f Hcr8 HnD ⊢
        clear hWD
        have h10D : w10.heap.size < WD.heap.size := Hk15f.out.lt
        obtain ⟨y0, y1, y2, y3, y4, y5⟩ := dgC (Hold.out WD HnD.out).2.1
        go_upto_region 43 with fail
        obtain ⟨wt, hwt, k21, hbt, hst⟩ := boxedA WD 43 #[.int .i64 (n : Int), .slice A4 l.length c4, .int .i64 z, .int .i64 9, .int .i64 9, .slice (some ⟨g4, 0, none⟩) R.length cm4]
        rw [hwt]
        have hfz := k21.frozen 5
        have hc5 : wt.cell? ⟨WD.heap.size, 5, none⟩ = some (.slice (some ⟨g4, 0, none⟩) R.length cm4) := k21.cell 5
        have k21b := k21.set_ 5 (.slice none 0 0)
        have hbE := hbt.setCell (p := ⟨WD.heap.size, 5, none⟩) (Nat.le_refl _) (.slice none 0 0)
        clear hwt y0 y1 y2 y3 y4 y5
        go_upto_region 44 with fail
        obtain ⟨WE, hWE⟩ : ∃ W, wt.setCell ⟨WD.heap.size, 5, none⟩ (.slice none 0 0) = W := ⟨_, rfl⟩
        rw [hWE] at k21b hbE ⊢
        have K21 := Lib.hid k21b; have HbE := Lib.hid hbE
        have Hrow := Lib.hid Hcr8.out.rr
        obtain ⟨j0, j1, j2, j3, j4, j5⟩ := dgC (Hk15f.out.below hbE h10D)
        clear k21 hbt hst hfz hc5 k21b hbE hWE
        have Hkeep := Lib.hid (show ∀ wr, Near WD.heap.size WE.heap.size WE wr → Below WD.heap.size WD wr from fun wr h => HbE.out.trans (near_below h K21.out.lt))
        have hqE : WD.heap.size < WE.heap.size := K21.out.lt
        go_wp2_with fail
        go_loopw [205] (fun t wr => ∃ (j : Nat) (v : Value), j ≤ dd.rc.length ∧ t = .int .i64 (j : Int) ∧ Blk wr WD.heap.size 43 #[.int .i64 (n : Int), .slice A4 l.length c4, .int .i64 z, .int .i64 9, .int .i64 9, v] ∧ OwnM wr WE.heap.size v (R.take j) ∧ Near WD.heap.size WE.heap.size WE wr) (fun t _ => dd.rc.length - (intOf t).toNat)
        case atStart => exact ⟨0, _, Nat.zero_le _, rfl, K21.out, OwnM.nil _ _, Near.refl _ _ _⟩
        case round =>
          clear K21
          obtain ⟨j, v, hj, rfl, hk21, hown, hnr⟩ := hrel
          have hbw := Hkeep.out wr hnr
          have hsw := hnr.size
          by_cases hjl : j < dd.rc.length
          case pos =>
            as_aux_lemma =>
            obtain ⟨hcj, hjR⟩ := rcl_at Hits.out Hpre.out hjl
            obtain ⟨hmc, hc0, hc1⟩ := sm_mv Hsm.out hjR
            obtain ⟨b, o, hRe, e0⟩ := (Hrow.out.below hbw) j hjl
            rw [hcj] at e0
            generalize codeM (mv R j) = x at *
            subst hRe
            have hjl' : (j : Int) < (dd.rc.length : Int) := by omega
            have hj0 : (0 : Int) ≤ (j : Int) := by omega
            have hsuc := take_next hjR
            have hlt8 : (R.take j).length ≤ 1000000 := by rw [List.length_take]; omega
            have Hk21 := Lib.hid hk21; have Hown := Lib.hid hown; have Hnr := Lib.hid hnr; have Hmc := Lib.hid hmc; have Hsuc := Lib.hid hsuc; have Hlt8 := Lib.hid hlt8
            clear hk21 hown hnr hmc hsuc hcj hbw hlt8
            go_upto_region 47 with fail
            refine wp_region_textZ [3, 4, 5, 7] (fun w' => Blk w' WD.heap.size 43 #[.int .i64 (n : Int), .slice A4 l.length c4, .int .i64 z, .int .i64 9, .int .i64 9, v]) (fun w' => Below wr.heap.size wr w') (by kernel_rfl) (by kernel_rfl) (by kernel_rfl) (by kernel_rfl) Hk21.out (Below.refl _ _).drew ?_
            repeat (first
              | (refine TxtZL.skip (by rfl) ?_; simp only [Act.put, List.setIfInBounds_toArray, List.set_cons_zero, List.set_cons_succ])
              | (refine TxtZL.take (by rfl) (by rfl) ?_; apply Exists.intro; refine ⟨fun w1 hS1 => ?_, ?_⟩; (focus ((obtain ⟨g0, g1, g2, g3, g4, g5⟩ := dgC hS1); go_simp; with_reducible rfl)); simp only [Act.put, List.setIfInBounds_toArray, List.set_cons_zero, List.set_cons_succ])
              | (refine TxtZL.takeE' (by rfl) (by rfl) ?_; apply Exists.intro; refine ⟨fun w1 hS1 => ?_, ?_⟩; (focus ((obtain ⟨g0, g1, g2, g3, g4, g5⟩ := dgC hS1); go_simp; with_reducible rfl)); simp only [Act.put, List.setIfInBounds_toArray, List.set_cons_zero, List.set_cons_succ]))
            refine TxtZL.call (f := 16) (args := #[.int .i64 x]) (fun u => u = Value.agg #[.int .i64 (mv R j).1, .int .i64 (mv R j).2.1, .int .i64 (mv R j).2.2.1, .int .i64 (mv R j).2.2.2]) (fun _ w' => Below wr.heap.size wr w') (by rfl) (by rfl) ⟨_, rfl⟩ (fun w1 hS1 hJ1 => by go_simp) (fun w1 hS1 hJ1 => ?_) ?_
            · have h := move_any x w1 hc0 hc1
              rw [Hmc.out] at h
              refine h.mono ?_
              rintro e w' ⟨rfl, hb⟩
              exact ⟨_, rfl, hS1.below hb hS1.lt, rfl, hJ1.trans (hb.mono hJ1.size)⟩
            rintro u rfl
            simp only [Act.put, List.setIfInBounds_toArray, List.set_cons_zero, List.set_cons_succ]
            refine TxtZL.eff (fun u => ∃ gv : Nat, u = .slice (some ⟨gv, 0, none⟩) 1 1) (fun u w' => ∃ X : World, w' = X.alloc (.cells #[.int .i64 (mv R j).1, .int .i64 (mv R j).2.1, .int .i64 (mv R j).2.2.1, .int .i64 (mv R j).2.2.2] 46) ∧ u = .slice (some ⟨X.heap.size, 0, none⟩) 1 1 ∧ Below wr.heap.size wr X ∧ Blk X WD.heap.size 43 #[.int .i64 (n : Int), .slice A4 l.length c4, .int .i64 z, .int .i64 9, .int .i64 9, v]) (by rfl) (by rfl) ⟨_, 0, rfl⟩ (fun w3 hS3 hJ3 => ?_) ?_
            · exact Eff.value (w' := w3.alloc (.cells #[.int .i64 (mv R j).1, .int .i64 (mv R j).2.1, .int .i64 (mv R j).2.2.1, .int .i64 (mv R j).2.2.2] 46)) (v := .slice (some ⟨w3.heap.size, 0, none⟩) 1 1) (by go_simp) ⟨hS3.alloc _, ⟨_, rfl⟩, w3, rfl, rfl, hJ3, hS3⟩
            rintro u ⟨gv, rfl⟩
            simp only [Act.put, List.setIfInBounds_toArray, List.set_cons_zero, List.set_cons_succ]
            refine TxtZL.eff (fun u => ∃ A' k' c', u = Value.slice A' k' c') (fun u w' => OwnM w' WE.heap.size u (R.take (j + 1)) ∧ Below WE.heap.size wr w') (by rfl) (by rfl) ⟨_, none, 0, 0, rfl⟩ (fun w3 hS3 hJ3 => Eff.of_list (ops := #[]) (by rfl) ?_) ?_
            · obtain ⟨X, rfl, e, hX, hkX⟩ := hJ3
              injection e with e _ _; injection e with e; injection e with e _; subst e
              have hownX := OwnM.below Hown.out hX
              have hBX : WE.heap.size ≤ X.heap.size := by have := hX.size; omega
              refine wpList_appM2 (by rfl) _ _ (by rfl) X WE.heap.size v (R.take j) (mv R j) hownX (by rfl) (by rfl) Hlt8.out hBX ?_
              intro v' w' ho hb' hg hlv
              rw [← Hsuc.out] at ho
              obtain ⟨A', c', e', _⟩ := ho.form
              exact ⟨rfl, v', rfl, hkX.grown hg (fun e => row_ne hownX hkX (by decide) e.symm), ⟨A', _, c', e'⟩, ho, (hX.mono hsw).trans hb'⟩
            rintro _ ⟨A', k', c', rfl⟩
            simp only [Act.put, List.setIfInBounds_toArray, List.set_cons_zero, List.set_cons_succ]
            repeat (first
              | (refine TxtZL.skip (by rfl) ?_; simp only [Act.put, List.setIfInBounds_toArray, List.set_cons_zero, List.set_cons_succ])
              | (refine TxtZL.take (by rfl) (by rfl) ?_; apply Exists.intro; refine ⟨fun w1 hS1 => ?_, ?_⟩; (focus (skip; go_simp; with_reducible rfl)); simp only [Act.put, List.setIfInBounds_toArray, List.set_cons_zero, List.set_cons_succ])
              | (refine TxtZL.takeE' (by rfl) (by rfl) ?_; apply Exists.intro; refine ⟨fun w1 hS1 => ?_, ?_⟩; (focus (skip; go_simp; with_reducible rfl)); simp only [Act.put, List.setIfInBounds_toArray, List.set_cons_zero, List.set_cons_succ]))
            refine TxtZL.last (fun w' => Blk w' WD.heap.size 43 #[.int .i64 (n : Int), .slice A4 l.length c4, .int .i64 z, .int .i64 9, .int .i64 9, .slice A' k' c'] ∧ OwnM w' WE.heap.size (.slice A' k' c') (R.take (j + 1)) ∧ Near WD.heap.size WE.heap.size wr w') (by rfl) (by rfl) (fun w4 hS4 hJ4 => ?_) ?_
            · obtain ⟨ho, hb⟩ := hJ4
              obtain ⟨g0, g1, g2, g3, g4, g5⟩ := dgC hS4
              have hfz := hS4.frozen 5
              exact Eff.skip (w' := w4.setCell ⟨WD.heap.size, 5, none⟩ (.slice A' k' c')) (by go_simp) ⟨hS4.set_ 5 _, own_kept ho (grownBy_setCell _ _ _ _) hS4 (by decide), near_setp (Near.of_below hb) 5 _⟩
            rintro u2 w4 ⟨hk4, ho4, hn4⟩
            simp only [Act.put]
            have Hk4 := Lib.hid hk4; have Ho4 := Lib.hid ho4; have Hn4 := Lib.hid (Hnr.out.trans hn4)
            clear hk4 ho4 hn4
            go_wp2_with fail
            go_roundw
            case rel => exact ⟨j + 1, _, by omega, by go_num, Hk4.out, Ho4.out, Hn4.out⟩
            case measure => simp [intOf]; omega
          case neg =>
          obtain rfl : j = dd.rc.length := by omega
          obtain ⟨T, hT⟩ : ∃ T, R.take dd.rc.length = T := ⟨_, rfl⟩
          have hTl : T.length = dd.rc.length := by rw [← hT, List.length_take]; omega
          have hTp : PlayL 9 9 l z T := by rw [← hT]; exact HP.out.take (by omega) (by omega)
          have hTm : ∀ k, k < T.length → mv T k = mv R k := fun k hk => by rw [← hT]; exact mv_take (by omega) (by omega)
          rw [hT] at hown
          obtain ⟨M9, cm9, rfl, _, _, _⟩ := hown.form
          obtain ⟨g9, hg9, hg9e, hcap9⟩ := hown.some_ (fun e => by have := hTp.pos; rw [e] at this; simp at this)
          subst hg9
          have Hk21 := Lib.hid hk21; have Hrm9 := Lib.hid (own_rm hown).1; have Hbw := Lib.hid hbw; have HTp := Lib.hid hTp; have HTm := Lib.hid hTm; have HT := Lib.hid hT
          have hTl18 : T.length ≤ 18 := hTp.len18
          have hTle : T.length ≤ R.length := by omega
          have HTl := Lib.hid hTl
          obtain ⟨u0, u1, u2, u3, u4, u5⟩ := dgC hk21
          clear hk21 hown hnr hbw hTp hTm hT hTl
          have hTR : T = R := by rw [← HT.out, Hlen7.out, List.take_length]
          have hnW := HnD.out.trans (Near.of_below (p := p) (Hbw.out.mono (by omega : w10.heap.size ≤ WD.heap.size)))
          have Hold9 := Lib.hid (Hold.out wr hnW)
          have K159 := Lib.hid (Hk15f.out.below Hbw.out Hk15f.out.lt)
          have hju := fun W hp hr => judge_any n A4 l c4 z 9 9 (some ⟨g9, 0, none⟩) T cm9 W hp Han4.out HV.out hll hr hcap9 HTp.out hz0 hz1 (by omega) (by omega) (by omega) (by omega)
          rw [show endF 9 9 l T = endF 9 9 l R by rw [hTR]] at hju
          have hsa := fun W hp hp' hr (hr' : RM W (some ⟨g9, 0, none⟩) T) => rSame_any n A4 A4 l c4 c4 z 9 9 (some ⟨g4, 0, none⟩) (some ⟨g9, 0, none⟩) R cm4 cm9 W hp hp' hll hr (hTR ▸ hr') (by omega)
          have Hju := Lib.hid hju
          have Hsa := Lib.hid (show ∀ W, RP W A4 l → RM W (some ⟨g4, 0, none⟩) R → RM W (some ⟨g9, 0, none⟩) T → Calls Try.prog 22 #[.agg #[.int .i64 (n : Int), .slice A4 l.length c4, .int .i64 z, .int .i64 9, .int .i64 9, .slice (some ⟨g4, 0, none⟩) R.length cm4], .agg #[.int .i64 (n : Int), .slice A4 l.length c4, .int .i64 z, .int .i64 9, .int .i64 9, .slice (some ⟨g9, 0, none⟩) T.length cm9]] W (RetB (.bool true) W) from fun W h1 h2 h3 => by
            have h := hsa W h1 h1 h2 h3
            rw [hTR]
            exact h)
          clear hju hsa hTR hnW u0 u1 u2 u3 u4 u5 j0 j1 j2 j3 j4 j5
          obtain ⟨t0, t1, t2, t3, t4, t5⟩ := dgC Hold9.out.2.1
          go_wp2_with fail
          refine (judge_any n A4 l c4 z 9 9 (some ⟨g4, 0, none⟩) R cm4 wr Hold9.out.2.2.2.1 Han4.out HV.out hll Hold9.out.2.2.1 hcap HP.out hz0 hz1 (by omega) (by omega) (by omega) (by omega)).mono ?_
          rintro e w13 ⟨rfl, hb13⟩
          go_upto_region 50 with fail
          obtain ⟨w14, hw14, k30, hb14, hs14⟩ := boxedA w13 64 #[.int .i64 (endF 9 9 l R).1, .int .i64 (endF 9 9 l R).2]
          rw [hw14]
          have Hb14 := Lib.hid (endB hb13 hb14)
          have K30 := Lib.hid k30
          clear hw14 k30 hb14 hb13 t0 t1 t2 t3 t4 t5
          obtain ⟨u0, u1, u2, u3, u4, u5⟩ := dgC (Hk21.out.below Hb14.out Hk21.out.lt)
          go_wp2_with fail
          refine (Hju.out w14 (Hold9.out.2.2.2.1.below Hb14.out) (Hrm9.out.below Hb14.out)).mono ?_
          rintro e w15 ⟨rfl, hb15⟩
          go_upto_region 51 with fail
          obtain ⟨w16, hw16, k32, hb16, hs16⟩ := boxedA w15 64 #[.int .i64 (endF 9 9 l R).1, .int .i64 (endF 9 9 l R).2]
          rw [hw16]
          have hb156 := endB hb15 hb16
          have Hb16 := Lib.hid (endB Hb14.out hb156)
          have K302 := Lib.hid (K30.out.below hb156 K30.out.lt)
          have K32 := Lib.hid k32
          clear hw16 k32 hb16 hb15 hb156 u0 u1 u2 u3 u4 u5 hs14 hs16
          obtain ⟨j0, j1, j2, j3, j4, j5⟩ := dgC (K159.out.below Hb16.out K159.out.lt)
          go_wp2_with fail
          refine (done_any dd I7 ci7 R7 cr7 H7 ch7 F7 cf7 w16).mono ?_
          rintro e w17 ⟨rfl, hb17⟩
          rw [Hdn.out]
          have Hb17 := Lib.hid (endB Hb16.out hb17)
          have K303 := Lib.hid (K302.out.below hb17 K302.out.lt); have K323 := Lib.hid (K32.out.below hb17 K32.out.lt)
          clear hb17 j0 j1 j2 j3 j4 j5 K302 K32
          obtain ⟨u0, u1, u2, u3, u4, u5⟩ := dgC (Hk21.out.below Hb17.out Hk21.out.lt)
          obtain ⟨t0, t1, t2, t3, t4, t5⟩ := dgC (Hold9.out.2.1.below Hb17.out Hold9.out.2.1.lt)
          go_wp2_with fail
          refine (Hsa.out w17 (Hold9.out.2.2.2.1.below Hb17.out) (Hold9.out.2.2.1.below Hb17.out) (Hrm9.out.below Hb17.out)).mono ?_
          rintro e w18 ⟨rfl, hb18⟩
          obtain ⟨o0, o1, _, _⟩ := (K303.out.below hb18 K303.out.lt).two
          obtain ⟨o2, o3, _, _⟩ := (K323.out.below hb18 K323.out.lt).two
          have Hb18 := Lib.hid (endB Hb17.out hb18)
          have heqO : ∀ w, (binOp .eql 64 (.agg #[.int .i64 (endF 9 9 l R).1, .int .i64 (endF 9 9 l R).2]) (.agg #[.int .i64 (endF 9 9 l R).1, .int .i64 (endF 9 9 l R).2])).run Try.prog w = .ok (.bool true) w := fun w => by rw [run_eqlO]; simp
          clear hb18 u0 u1 u2 u3 u4 u5 t0 t1 t2 t3 t4 t5 K303 K323
          go_wp2_with fail
          refine (awake30_any w18).mono ?_
          rintro e w19 ⟨rfl, hb19⟩
          have Hfin := Lib.hid (endB (endB Hold9.out.2.2.2.2.1 Hb18.out) hb19)
          clear hb19 o0 o1 o2 o3 heqO
          go_wp2_with fail
          go_ret
          exact ⟨rfl, Hfin.out⟩
      case pos =>
      as_aux_lemma =>
      have hlt' : (k : Int) < 60 := by omega
      have hk0 : (0 : Int) ≤ (k : Int) := by omega
      go_wp2_with fail
      refine (n_any p 4 wo HS.out (by omega) (by omega)).mono ?_
      rintro e w1' ⟨d1, rfl, hd10, hd11, hs1, hg1⟩
      have hw1 : IntKind.i64.wrap (1 + d1) = 1 + d1 := by rw [IntKind.wrap_i64]; omega
      have HS1 := Lib.hid hs1; have Hg1 := Lib.hid hg1
      clear hs1 hg1
      go_wp2_with fail
      refine (n_any p 6 w1' HS1.out (by omega) (by omega)).mono ?_
      rintro e w2' ⟨d2, rfl, hd20, hd21, hs2, hg2⟩
      have hg12 := grownBy_trans Hg1.out hg2
      have hs12 := hg12.size
      have Hcr2 := Lib.hid (Hcr.out.grownP Hcg.out hg12)
      have K15b := Lib.hid (K15.out.grown hg12 (fun e => by injection e; omega))
      have Hn2 := Lib.hid (Hn.out.trans (Near.of_grown hg12 (by omega : w10.heap.size ≤ wo.heap.size)))
      clear hg2 hg12 Hg1 HS1 Hcr K15 Hn HS
      go_upto_region 23 with fail
      obtain ⟨w3', hw3, k18, hb3, hs3⟩ := boxedA w2' 54 #[.int .i64 (1 + d1), .int .i64 d2]
      rw [hw3]
      have Hs3 := Lib.hid (hs2.kept hb3)
      have K18 := Lib.hid k18
      have hp18 : p ≠ w2'.heap.size := by omega
      have Hb3 := Lib.hid hb3
      clear hw3 k18 hb3 hs2 hw1
      go_cut [116] (fun s116 wx => ∃ b : Bool, s116 = .bool b ∧ (b = true → k < evs.length) ∧ SrcOk wx p ∧ w3'.grownBy wx (some p))
      case first =>
        as_aux_lemma =>
        by_cases hev : k < evs.length
        · have hd : decide ((k : Int) < (evs.length : Int)) = true := decide_eq_true (by omega)
          go_wp2_with fail
          refine (n_any p 3 w3' Hs3.out (by omega) (by omega)).mono ?_
          rintro e w4 ⟨d3, rfl, _, _, hs4, hg4⟩
          go_wp2_with fail
          go_meet
          exact ⟨d3 == 0, rfl, fun _ => hev, hs4, hg4⟩
        · have hd : decide ((k : Int) < (evs.length : Int)) = false := decide_eq_false (by omega)
          go_wp2_with fail
          go_meet
          exact ⟨false, rfl, (fun e => by cases e), Hs3.out, grownBy_refl _ _⟩
      obtain ⟨b, rfl, hbk, hsc, hgc⟩ := hcut
      have Hbk := Lib.hid hbk; have Hsc := Lib.hid hsc
      have K18c := Lib.hid (K18.out.grown hgc (fun e => by injection e; omega))
      have Hn3 := Lib.hid (show Near p w2'.heap.size w2' wc from (Near.of_below Hb3.out).trans (Near.of_grown hgc (by omega)))
      obtain ⟨f0, f1, g0, g1⟩ := K18c.out.two
      clear hbk hsc hgc Hs3 K18 Hb3
      go_upto_if 116 with fail
      go_cut [] (fun wx => ∃ kk nn : Int, (-9223372036854775808 ≤ nn ∧ nn ≤ 9223372036854775807) ∧ Blk wx w2'.heap.size 54 #[.int .i64 kk, .int .i64 nn] ∧ SrcOk wx p ∧ Near p w2'.heap.size w2' wx)
      case first =>
        as_aux_lemma =>
        cases b
        · go_wp2_with fail
          go_meet
          exact ⟨1 + d1, d2, ⟨by omega, by omega⟩, K18c.out, Hsc.out, Hn3.out⟩
        · have hkl := Hbk.out rfl
          have hEw := (Hold.out w2' Hn2.out).2.2.2.2.2
          obtain ⟨bE, oE, hEE, q0, q1⟩ := hEw k hkl
          have hbe : bE < w2'.heap.size := lt_of_cell q0
          have hbp : bE ≠ p := by
            obtain ⟨b0, o0, e0, c0, _⟩ := HE.out k hkl
            rw [hEE] at e0
            injection e0 with e0; injection e0 with e0 _ _
            have h1 := lt_of_cell c0
            have h2 := Hp.out
            dsimp only at h1
            omega
          have q0 := (near_cell Hn3.out (lt_of_cell q0) (by dsimp only; omega)).trans q0
          have q1 := (near_cell Hn3.out (lt_of_cell q1) (by dsimp only; omega)).trans q1
          have hkl' : (k : Int) < (evs.length : Int) := by omega
          have hrg := Hev.out _ (show evs.getD k (0, 0) ∈ evs by rw [List.getD_eq_getElem?_getD, List.getElem?_eq_getElem hkl]; exact List.getElem_mem hkl)
          have Hrg := Lib.hid hrg
          generalize evs.getD k (0, 0) = ev at *
          subst hEE
          clear hEw hrg
          go_wp2_with fail
          go_meet
          exact ⟨ev.1, ev.2, Hrg.out, set2 K18c.out _ _, (Hsc.out.other (grownBy_setCell _ _ _ _) (fun k hk => by injection hk with hk; omega)).other (grownBy_setCell _ _ _ _) (fun k hk => by injection hk with hk; omega), (Hn3.out.setCell (q := ⟨w2'.heap.size, 0, none⟩) (Nat.le_refl _) _).setCell (q := ⟨w2'.heap.size, 1, none⟩) (Nat.le_refl _) _⟩
      obtain ⟨kk, nn, hnn, hk18, hsc2, hn4⟩ := hcut
      have hg4 := hn4.grown
      have hs4 := hn4.size
      have Hcr4 := Lib.hid (Hcr2.out.grownP Hcg.out hg4)
      have K15c := Lib.hid (K15b.out.grown hg4 (fun e => by injection e; omega))
      have Hn5 := Lib.hid (Hn2.out.trans (near_wideC hn4 (by omega : w10.heap.size ≤ w2'.heap.size)))
      have HS4 := Lib.hid hsc2
      have h10c : w10.heap.size < wc.heap.size := K15c.out.lt
      obtain ⟨j0, j1, j2, j3, j4, j5⟩ := dgC K15c.out
      obtain ⟨v0, v1, _, _⟩ := hk18.two
      clear hg4 hk18 hsc2 hn4 Hcr2 K15b Hn2 Hbk Hsc K18c Hn3 f0 f1 g0 g1
      obtain ⟨WC, hWC⟩ : ∃ WC, WC = wc := ⟨_, rfl⟩
      subst hWC
      go_upto_region 25 with fail
      go_cut [19, 20] (fun s19 s20 wx => ∃ (q19 : Nat) (e5 : Int) (x0 x1 x2 x3 x4 x5 : Value), s19 = Value.pointer (some ⟨q19, 0, none⟩) ∧ s20 = Value.int .i64 e5 ∧ WC.heap.size ≤ q19 ∧ Blk wx q19 50 #[x0, x1, x2, x3, x4, x5] ∧ (e5 = 0 → ∃ (ch' : Chn) (I' : Option Addr) (ci' : Nat) (R2 : Option Addr) (cr' : Nat) (H' : Option Addr) (ch2 : Nat) (F' : Option Addr) (cf' : Nat), (x0 = .slice I' ch'.items.length ci' ∧ x1 = .int .i64 ch'.win ∧ x2 = .int .i64 ch'.base ∧ x3 = .slice R2 ch'.rc.length cr' ∧ x4 = .slice H' ch'.held.length ch2 ∧ x5 = .slice F' ch'.fl.length cf') ∧ ChR wx ch' I' ci' R2 cr' H' ch2 F' cf' ∧ ChG WC.heap.size I' R2 H' F' ∧ CI ch' ∧ ch'.items = its) ∧ Below WC.heap.size WC wx)
      case first =>
        as_aux_lemma =>
        go_wp2_with fail
        refine (chStep_any ch I ci R' cr H chh F cf kk nn WC Hcr4.out Hci.out hnn.1 hnn.2).mono ?_
        rintro e w5' ⟨hb5, hres⟩
        have hb5s := hb5.size
        rcases hres with ⟨he, I', ci', R2, cr', H', ch2, F', cf', rfl, hcr5, hcg5⟩ | ⟨he, rfl⟩
        · have hci5 := step_ok Hci.out he
          have hit5 := (step_items (c := ch) (k := kk) (n := nn)).1
          generalize stepF ch kk nn = cS at *
          have Hcr5 := Lib.hid hcr5; have Hcg5 := Lib.hid hcg5; have Hci5 := Lib.hid hci5; have Hit5 := Lib.hid (hit5.trans Hcit.out); have Hb5 := Lib.hid hb5
          clear hcr5 hcg5 hci5 hit5 hb5 he
          go_wp2_with fail
          go_meet
          exact ⟨_, 0, _, _, _, _, _, _, rfl, rfl, hb5s, Blk.new _ _ _, fun _ => ⟨cS, I', ci', R2, cr', H', ch2, F', cf', ⟨rfl, rfl, rfl, rfl, rfl, rfl⟩, Hcr5.out.below (newB _ _), Hcg5.out, Hci5.out, Hit5.out⟩, Hb5.out.trans ((newB _ _).mono hb5s)⟩
        · generalize stepE ch kk nn = e5 at *
          have He := Lib.hid he; have Hb5 := Lib.hid hb5
          clear he hb5
          go_wp2_with fail
          go_meet
          exact ⟨_, e5, _, _, _, _, _, _, rfl, rfl, hb5s, Blk.new _ _ _, fun h => absurd h He.out, Hb5.out.trans ((newB _ _).mono hb5s)⟩
      obtain ⟨q19, e5, x0, x1, x2, x3, x4, x5, rfl, rfl, hq19, hk19, hok, hb5⟩ := hcut
      have hb5s := hb5.size
      have Hok := Lib.hid hok
      have Hcr6 := Lib.hid (Hcr4.out.below hb5)
      have K15d := Lib.hid (K15c.out.below hb5 h10c)
      have Hn6 := Lib.hid (Hn5.out.trans (Near.of_below (hb5.mono (by omega : w10.heap.size ≤ WC.heap.size))))
      have HS6 := Lib.hid (HS4.out.kept hb5)
      clear j0 j1 j2 j3 j4 j5 v0 v1 hok hb5 Hcr4 K15c Hn5 HS4 hnn
      obtain ⟨j0, j1, j2, j3, j4, j5⟩ := dgC hk19
      obtain ⟨y0, y1, y2, y3, y4, y5⟩ := dgC K15d.out
      obtain ⟨z0, z1, z2, z3, z4, z5⟩ := dgF K15d.out
      clear hk19
      go_upto_if 128 with fail
      go_cut [] (fun wx => ∃ (ch : Chn) (I : Option Addr) (ci : Nat) (R' : Option Addr) (cr : Nat) (H : Option Addr) (chh : Nat) (F : Option Addr) (cf : Nat), Blk wx w10.heap.size 50 #[.slice I ch.items.length ci, .int .i64 ch.win, .int .i64 ch.base, .slice R' ch.rc.length cr, .slice H ch.held.length chh, .slice F ch.fl.length cf] ∧ ChR wx ch I ci R' cr H chh F cf ∧ ChG (p + 1) I R' H F ∧ CI ch ∧ ch.items = its ∧ SrcOk wx p ∧ Near p w10.heap.size w10 wx)
      case first =>
        as_aux_lemma =>
        by_cases h0 : e5 = 0
        · obtain ⟨ch', I', ci', R2, cr', H', ch2, F', cf', ⟨rfl, rfl, rfl, rfl, rfl, rfl⟩, hcr', hcg', hci', hcit'⟩ := Hok.out h0
          have Hcr' := Lib.hid hcr'; have Hcg' := Lib.hid hcg'; have Hci' := Lib.hid hci'; have Hcit' := Lib.hid hcit'
          subst h0
          clear hcr' hcg' hci' hcit'
          go_wp2_with fail
          go_meet
          exact ⟨ch', I', ci', R2, cr', H', ch2, F', cf', set6 K15d.out .., Hcr'.out.grownP (Hcg'.out.mono (by omega : w10.heap.size + 1 ≤ WC.heap.size)) (near_set6 (Near.refl w10.heap.size _ _) _ _ _ _ _ _).grown, Hcg'.out.mono (by omega), Hci'.out, Hcit'.out, src_set6 HS6.out (by omega) .., near_set6o Hn6.out (Nat.le_refl _) ..⟩
        · have hd : (e5 == 0) = false := beq_eq_false_iff_ne.2 h0
          clear h0
          go_wp2_with fail
          go_meet
          exact ⟨ch, I, ci, R', cr, H, chh, F, cf, K15d.out, Hcr6.out, Hcg.out, Hci.out, Hcit.out, HS6.out, Hn6.out⟩
      clear Hcr6 K15d Hn6 HS6 Hok Hcg Hci Hcit j0 j1 j2 j3 j4 j5 y0 y1 y2 y3 y4 y5 z0 z1 z2 z3 z4 z5
      obtain ⟨ch, I, ci, R', cr, H, chh, F, cf, k15, hcr, hcg, hci, hcit, hs, hn⟩ := hcut
      have hpre : Pre its ch.rc := hcit ▸ hci.pre
      obtain ⟨bI, oI, hIe, -⟩ := (Hold.out wc hn).1 0 (by rw [Hil.out]; exact hRp)
      subst hIe
      have hold := Hold.out wc hn
      have hrl : ch.rc.length ≤ R.length := by have := hpre.1; rw [Hil.out] at this; exact this
      have hlt8 : (its.take ch.rc.length).length = ch.rc.length := by rw [List.length_take]; have := hpre.1; omega
      have hot : ∀ nd, Calls Try.prog 15 #[.slice R' ch.rc.length cr, .slice (some ⟨bI, oI, none⟩) ch.rc.length ci2] (wc.drewN nd) (RetQ (.bool true) (wc.drewN nd)) := fun nd => by
        have h := ints_any R' (some ⟨bI, oI, none⟩) ch.rc (its.take ch.rc.length) cr ci2 (wc.drewN nd) (by omega) (by rw [hlt8]; omega) hcr.rr (hold.1.takeC _)
        rw [hlt8, (eqB_iff _ _).2 hpre.2] at h
        exact h
      have hd0 : decide ((R.length : Int) < (ch.rc.length : Int)) = false := decide_eq_false (by omega)
      have hsl0 : (0 : Int) ≤ (ch.rc.length : Int) := by omega
      have hsl1 : (ch.rc.length : Int) ≤ (ci2 : Int) := by have := Hri.out.2.2; omega
      obtain ⟨j0, j1, j2, j3, j4, j5⟩ := dgC k15
      have Hcr := Lib.hid hcr; have Hcg := Lib.hid hcg; have Hci := Lib.hid hci; have Hcit := Lib.hid hcit; have Hn := Lib.hid hn; have K15 := Lib.hid k15; have HS := Lib.hid hs; have Hpre := Lib.hid hpre
      clear hcr hcg hci hcit hn k15 hs hpre hold hlt8
      go_upto_region 28 with fail
      go_quiet ((refine (hot _).mono ?_; rintro e w' ⟨rfl, nd, rfl⟩; exact ⟨rfl, _, World.drewN_drewN ..⟩))
      have hbd := below_drewN (Below.refl wc.heap.size wc) nq
      have Hcr := Lib.hid (Hcr.out.below hbd); have K15 := Lib.hid (K15.out.below hbd K15.out.lt); have HS := Lib.hid (HS.out.kept hbd)
      have Hn := Lib.hid (Hn.out.trans (Near.of_below (hbd.mono (Hn.out.size))))
      clear hbd hot hd0 hsl0 hsl1 j0 j1 j2 j3 j4 j5
      generalize wc.drewN nq = WD at *
      have hwi : IntKind.i64.wrap ((k : Int) + 1) = ((k + 1 : Nat) : Int) := by rw [IntKind.wrap_i64]; omega
      obtain ⟨j0, j1, j2, j3, j4, j5⟩ := dgC K15.out
      have h10D : w10.heap.size < WD.heap.size := K15.out.lt
      go_upto_region 30 with fail
      by_cases hb20 : ((k : Int) % 20 == 19) = true ∧ 0 < ch.rc.length
      case neg =>
        as_aux_lemma =>
        cases hb2 : ((k : Int) % 20 == 19)
        · have hb3 : ¬ (k : Int) % 20 = 19 := by simpa using hb2
          go_wp2_with fail
          go_roundw
          case rel => exact ⟨k + 1, ch, I, ci, R', cr, H, chh, F, cf, by omega, by go_num, HS.out, K15.out, Hcr.out, Hcg.out, Hci.out, Hcit.out, Hn.out⟩
          case measure => simp [intOf]; omega
        · have hd : decide ((0 : Int) < (ch.rc.length : Int)) = false := decide_eq_false (fun h => hb20 ⟨hb2, by omega⟩)
          have hb3 : (k : Int) % 20 = 19 := by simpa using hb2
          have hr1 : ¬ 0 < ch.rc.length := fun h => hb20 ⟨hb2, h⟩
          clear hb20
          go_wp2_with fail
          go_roundw
          case rel => exact ⟨k + 1, ch, I, ci, R', cr, H, chh, F, cf, by omega, by go_num, HS.out, K15.out, Hcr.out, Hcg.out, Hci.out, Hcit.out, Hn.out⟩
          case measure => simp [intOf]; omega
      case pos =>
      as_aux_lemma =>
      obtain ⟨hb2, hr0⟩ := hb20
      have hb3 : (k : Int) % 20 = 19 := by simpa using hb2
      have hd : decide ((0 : Int) < (ch.rc.length : Int)) = true := decide_eq_true (by omega)
      obtain ⟨y0, y1, y2, y3, y4, y5⟩ := dgC (Hold.out WD Hn.out).2.1
      go_upto_region 32 with fail
      obtain ⟨wt, hwt, k21, hbt, hst⟩ := boxedA WD 43 #[.int .i64 (n : Int), .slice A4 l.length c4, .int .i64 z, .int .i64 9, .int .i64 9, .slice (some ⟨g4, 0, none⟩) R.length cm4]
      rw [hwt]
      have hfz := k21.frozen 5
      have hc5 : wt.cell? ⟨WD.heap.size, 5, none⟩ = some (.slice (some ⟨g4, 0, none⟩) R.length cm4) := k21.cell 5
      have k21b := k21.set_ 5 (.slice none 0 0)
      have hbE := hbt.setCell (p := ⟨WD.heap.size, 5, none⟩) (Nat.le_refl _) (.slice none 0 0)
      clear hwt hd hb2 hb3 y0 y1 y2 y3 y4 y5 j0 j1 j2 j3 j4 j5
      go_upto_region 33 with fail
      obtain ⟨WE, hWE⟩ : ∃ W, wt.setCell ⟨WD.heap.size, 5, none⟩ (.slice none 0 0) = W := ⟨_, rfl⟩
      rw [hWE] at k21b hbE ⊢
      have K21 := Lib.hid k21b; have HbE := Lib.hid hbE
      have Hrow := Lib.hid Hcr.out.rr
      obtain ⟨j0, j1, j2, j3, j4, j5⟩ := dgC (K15.out.below hbE h10D)
      clear k21 hbt hst hfz hc5 k21b hbE hWE
      have Hkeep := Lib.hid (show ∀ wr, Near WD.heap.size WE.heap.size WE wr → Below WD.heap.size WD wr from fun wr h => HbE.out.trans (near_below h K21.out.lt))
      have hqE : WD.heap.size < WE.heap.size := K21.out.lt
      go_wp2_with fail
      go_loopw [161] (fun t wr => ∃ (j : Nat) (v : Value), j ≤ ch.rc.length ∧ t = .int .i64 (j : Int) ∧ Blk wr WD.heap.size 43 #[.int .i64 (n : Int), .slice A4 l.length c4, .int .i64 z, .int .i64 9, .int .i64 9, v] ∧ OwnM wr WE.heap.size v (R.take j) ∧ Near WD.heap.size WE.heap.size WE wr) (fun t _ => ch.rc.length - (intOf t).toNat)
      case atStart => exact ⟨0, _, Nat.zero_le _, rfl, K21.out, OwnM.nil _ _, Near.refl _ _ _⟩
      case round =>
        clear K21
        obtain ⟨j, v, hj, rfl, hk21, hown, hnr⟩ := hrel
        have hbw := Hkeep.out wr hnr
        have hsw := hnr.size
        by_cases hjl : j < ch.rc.length
        case pos =>
          as_aux_lemma =>
          obtain ⟨hcj, hjR⟩ := rcl_at Hits.out Hpre.out hjl
          obtain ⟨hmc, hc0, hc1⟩ := sm_mv Hsm.out hjR
          obtain ⟨b, o, hRe, e0⟩ := (Hrow.out.below hbw) j hjl
          rw [hcj] at e0
          generalize codeM (mv R j) = x at *
          subst hRe
          have hjl' : (j : Int) < (ch.rc.length : Int) := by omega
          have hj0 : (0 : Int) ≤ (j : Int) := by omega
          have hsuc := take_next hjR
          have hlt8 : (R.take j).length ≤ 1000000 := by rw [List.length_take]; omega
          have Hk21 := Lib.hid hk21; have Hown := Lib.hid hown; have Hnr := Lib.hid hnr; have Hmc := Lib.hid hmc; have Hsuc := Lib.hid hsuc; have Hlt8 := Lib.hid hlt8
          clear hk21 hown hnr hmc hsuc hcj hbw hlt8
          go_upto_region 36 with fail
          refine wp_region_textZ [3, 4, 5, 7] (fun w' => Blk w' WD.heap.size 43 #[.int .i64 (n : Int), .slice A4 l.length c4, .int .i64 z, .int .i64 9, .int .i64 9, v]) (fun w' => Below wr.heap.size wr w') (by kernel_rfl) (by kernel_rfl) (by kernel_rfl) (by kernel_rfl) Hk21.out (Below.refl _ _).drew ?_
          repeat (first
            | (refine TxtZL.skip (by rfl) ?_; simp only [Act.put, List.setIfInBounds_toArray, List.set_cons_zero, List.set_cons_succ])
            | (refine TxtZL.take (by rfl) (by rfl) ?_; apply Exists.intro; refine ⟨fun w1 hS1 => ?_, ?_⟩; (focus ((obtain ⟨g0, g1, g2, g3, g4, g5⟩ := dgC hS1); go_simp; with_reducible rfl)); simp only [Act.put, List.setIfInBounds_toArray, List.set_cons_zero, List.set_cons_succ])
            | (refine TxtZL.takeE' (by rfl) (by rfl) ?_; apply Exists.intro; refine ⟨fun w1 hS1 => ?_, ?_⟩; (focus ((obtain ⟨g0, g1, g2, g3, g4, g5⟩ := dgC hS1); go_simp; with_reducible rfl)); simp only [Act.put, List.setIfInBounds_toArray, List.set_cons_zero, List.set_cons_succ]))
          refine TxtZL.call (f := 16) (args := #[.int .i64 x]) (fun u => u = Value.agg #[.int .i64 (mv R j).1, .int .i64 (mv R j).2.1, .int .i64 (mv R j).2.2.1, .int .i64 (mv R j).2.2.2]) (fun _ w' => Below wr.heap.size wr w') (by rfl) (by rfl) ⟨_, rfl⟩ (fun w1 hS1 hJ1 => by go_simp) (fun w1 hS1 hJ1 => ?_) ?_
          · have h := move_any x w1 hc0 hc1
            rw [Hmc.out] at h
            refine h.mono ?_
            rintro e w' ⟨rfl, hb⟩
            exact ⟨_, rfl, hS1.below hb hS1.lt, rfl, hJ1.trans (hb.mono hJ1.size)⟩
          rintro u rfl
          simp only [Act.put, List.setIfInBounds_toArray, List.set_cons_zero, List.set_cons_succ]
          refine TxtZL.eff (fun u => ∃ gv : Nat, u = .slice (some ⟨gv, 0, none⟩) 1 1) (fun u w' => ∃ X : World, w' = X.alloc (.cells #[.int .i64 (mv R j).1, .int .i64 (mv R j).2.1, .int .i64 (mv R j).2.2.1, .int .i64 (mv R j).2.2.2] 46) ∧ u = .slice (some ⟨X.heap.size, 0, none⟩) 1 1 ∧ Below wr.heap.size wr X ∧ Blk X WD.heap.size 43 #[.int .i64 (n : Int), .slice A4 l.length c4, .int .i64 z, .int .i64 9, .int .i64 9, v]) (by rfl) (by rfl) ⟨_, 0, rfl⟩ (fun w3 hS3 hJ3 => ?_) ?_
          · exact Eff.value (w' := w3.alloc (.cells #[.int .i64 (mv R j).1, .int .i64 (mv R j).2.1, .int .i64 (mv R j).2.2.1, .int .i64 (mv R j).2.2.2] 46)) (v := .slice (some ⟨w3.heap.size, 0, none⟩) 1 1) (by go_simp) ⟨hS3.alloc _, ⟨_, rfl⟩, w3, rfl, rfl, hJ3, hS3⟩
          rintro u ⟨gv, rfl⟩
          simp only [Act.put, List.setIfInBounds_toArray, List.set_cons_zero, List.set_cons_succ]
          refine TxtZL.eff (fun u => ∃ A' k' c', u = Value.slice A' k' c') (fun u w' => OwnM w' WE.heap.size u (R.take (j + 1)) ∧ Below WE.heap.size wr w') (by rfl) (by rfl) ⟨_, none, 0, 0, rfl⟩ (fun w3 hS3 hJ3 => Eff.of_list (ops := #[]) (by rfl) ?_) ?_
          · obtain ⟨X, rfl, e, hX, hkX⟩ := hJ3
            injection e with e _ _; injection e with e; injection e with e _; subst e
            have hownX := OwnM.below Hown.out hX
            have hBX : WE.heap.size ≤ X.heap.size := by have := hX.size; omega
            refine wpList_appM2 (by rfl) _ _ (by rfl) X WE.heap.size v (R.take j) (mv R j) hownX (by rfl) (by rfl) Hlt8.out hBX ?_
            intro v' w' ho hb' hg hlv
            rw [← Hsuc.out] at ho
            obtain ⟨A', c', e', _⟩ := ho.form
            exact ⟨rfl, v', rfl, hkX.grown hg (fun e => row_ne hownX hkX (by decide) e.symm), ⟨A', _, c', e'⟩, ho, (hX.mono hsw).trans hb'⟩
          rintro _ ⟨A', k', c', rfl⟩
          simp only [Act.put, List.setIfInBounds_toArray, List.set_cons_zero, List.set_cons_succ]
          repeat (first
            | (refine TxtZL.skip (by rfl) ?_; simp only [Act.put, List.setIfInBounds_toArray, List.set_cons_zero, List.set_cons_succ])
            | (refine TxtZL.take (by rfl) (by rfl) ?_; apply Exists.intro; refine ⟨fun w1 hS1 => ?_, ?_⟩; (focus (skip; go_simp; with_reducible rfl)); simp only [Act.put, List.setIfInBounds_toArray, List.set_cons_zero, List.set_cons_succ])
            | (refine TxtZL.takeE' (by rfl) (by rfl) ?_; apply Exists.intro; refine ⟨fun w1 hS1 => ?_, ?_⟩; (focus (skip; go_simp; with_reducible rfl)); simp only [Act.put, List.setIfInBounds_toArray, List.set_cons_zero, List.set_cons_succ]))
          refine TxtZL.last (fun w' => Blk w' WD.heap.size 43 #[.int .i64 (n : Int), .slice A4 l.length c4, .int .i64 z, .int .i64 9, .int .i64 9, .slice A' k' c'] ∧ OwnM w' WE.heap.size (.slice A' k' c') (R.take (j + 1)) ∧ Near WD.heap.size WE.heap.size wr w') (by rfl) (by rfl) (fun w4 hS4 hJ4 => ?_) ?_
          · obtain ⟨ho, hb⟩ := hJ4
            obtain ⟨g0, g1, g2, g3, g4, g5⟩ := dgC hS4
            have hfz := hS4.frozen 5
            exact Eff.skip (w' := w4.setCell ⟨WD.heap.size, 5, none⟩ (.slice A' k' c')) (by go_simp) ⟨hS4.set_ 5 _, own_kept ho (grownBy_setCell _ _ _ _) hS4 (by decide), near_setp (Near.of_below hb) 5 _⟩
          rintro u2 w4 ⟨hk4, ho4, hn4⟩
          simp only [Act.put]
          have Hk4 := Lib.hid hk4; have Ho4 := Lib.hid ho4; have Hn4 := Lib.hid (Hnr.out.trans hn4)
          clear hk4 ho4 hn4
          go_wp2_with fail
          go_roundw
          case rel => exact ⟨j + 1, _, by omega, by go_num, Hk4.out, Ho4.out, Hn4.out⟩
          case measure => simp [intOf]; omega
        case neg =>
        obtain rfl : j = ch.rc.length := by omega
        obtain ⟨T, hT⟩ : ∃ T, R.take ch.rc.length = T := ⟨_, rfl⟩
        have hTl : T.length = ch.rc.length := by rw [← hT, List.length_take]; omega
        have hTp : PlayL 9 9 l z T := by rw [← hT]; exact HP.out.take (by omega) (by omega)
        have hTm : ∀ k, k < T.length → mv T k = mv R k := fun k hk => by rw [← hT]; exact mv_take (by omega) (by omega)
        rw [hT] at hown
        obtain ⟨M9, cm9, rfl, _, _, _⟩ := hown.form
        obtain ⟨g9, hg9, hg9e, hcap9⟩ := hown.some_ (fun e => by have := hTp.pos; rw [e] at this; simp at this)
        subst hg9
        have Hk21 := Lib.hid hk21; have Hrm9 := Lib.hid (own_rm hown).1; have Hbw := Lib.hid hbw; have HTp := Lib.hid hTp; have HTm := Lib.hid hTm; have HT := Lib.hid hT
        have hTl18 : T.length ≤ 18 := hTp.len18
        have hTle : T.length ≤ R.length := by omega
        have HTl := Lib.hid hTl
        obtain ⟨u0, u1, u2, u3, u4, u5⟩ := dgC hk21
        clear hk21 hown hnr hbw hTp hTm hT hTl
        have hnW := Hn.out.trans (Near.of_below (p := p) (Hbw.out.mono (by omega : w10.heap.size ≤ WD.heap.size)))
        have hold := Hold.out wr hnW
        have HnW := Lib.hid hnW; have Hold9 := Lib.hid hold
        have Hcr9 := Lib.hid (Hcr.out.below Hbw.out); have K159 := Lib.hid (K15.out.below Hbw.out K15.out.lt); have HS9 := Lib.hid (HS.out.kept Hbw.out)
        have hswp : w10.heap.size ≤ wr.heap.size := by have := Hbw.out.size; omega
        clear hold hnW
        go_wp2_with fail
        refine (replay_any n A4 l c4 z 9 9 (some ⟨g9, 0, none⟩) T cm9 wr Hold9.out.2.2.2.1 Han4.out HV.out hll Hrm9.out hcap9 HTp.out hz0 hz1 (by omega) (by omega) (by omega) (by omega)).mono ?_
        rintro e w6 ⟨A6, c6, M6, cm6, rfl, hrp6, hrm6, hb6⟩
        go_upto_region 39 with fail
        obtain ⟨w7, hw7, k24, hb7, hs7⟩ := boxedA w6 34 #[.int .i64 (n : Int), .slice A6 l.length c6, .int .i64 z, .int .i64 9, .int .i64 9, .slice M6 T.length cm6]
        rw [hw7]
        have hb67 := endB hb6 hb7
        have Hk217 := Lib.hid (Hk21.out.below hb67 Hk21.out.lt); have Hrm97 := Lib.hid (Hrm9.out.below hb67)
        have K117 := Lib.hid (Hold9.out.2.1.below hb67 Hold9.out.2.1.lt); have Hrm47 := Lib.hid (Hold9.out.2.2.1.below hb67); have Hrp47 := Lib.hid (Hold9.out.2.2.2.1.below hb67)
        have Hb67 := Lib.hid hb67
        clear u0 u1 u2 u3 u4 u5 hw7 k24 hb7 hs7 hb6 hrp6 hrm6 hb67 Hk21 Hrm9
        obtain ⟨u0, u1, u2, u3, u4, u5⟩ := dgC Hk217.out
        obtain ⟨t0, t1, t2, t3, t4, t5⟩ := dgC K117.out
        go_wp2_with fail
        refine (agree_any n A4 A4 l c4 c4 z 9 9 (some ⟨g4, 0, none⟩) (some ⟨g9, 0, none⟩) R T cm4 cm9 w7 Hrp47.out Hrp47.out hll Hrm47.out Hrm97.out (by omega) (by omega) HTm.out).mono ?_
        rintro e w8 ⟨rfl, hb8⟩
        have Hb68 := Lib.hid (endB Hb67.out hb8)
        have hwi : IntKind.i64.wrap ((k : Int) + 1) = ((k + 1 : Nat) : Int) := by rw [IntKind.wrap_i64]; omega
        clear hb8 u0 u1 u2 u3 u4 u5 t0 t1 t2 t3 t4 t5
        go_wp2_with fail
        go_roundw
        case rel => exact ⟨k + 1, ch, I, ci, R', cr, H, chh, F, cf, by omega, by go_num, HS9.out.kept Hb68.out, K159.out.below Hb68.out K159.out.lt, Hcr9.out.below Hb68.out, Hcg.out, Hci.out, Hcit.out, HnW.out.trans (Near.of_below (Hb68.out.mono hswp))⟩
        case measure => simp [intOf]; omega
end Go.Proofs.Ythkknlnfdckdfaa
