/- protocol.New; referee.Record. (New's region of two orders is printed by gen_new.py.) -/
import Derived.Test.YthkknlnfdckdfaaPn6
namespace Go.Proofs.Ythkknlnfdckdfaa
open Go.ChangeShapes Go.WideShapes Go.ChangeAt Go.RowKit

theorem near_cell {p B : Nat} {a w : World} (h : Near p B a w) {x : Addr} (hx : x.block < B) (hp : x.block ≠ p) : w.cell? x = a.cell? x := by
  unfold World.cell?
  rw [h.block x.block hx hp]
theorem own_clm (w : World) (root : Int) : OwnM (w.alloc (.cells #[.int .i64 1, .int .i64 1, .int .i64 root, .int .i64 0] 46)) w.heap.size (.slice (some ⟨w.heap.size, 0, none⟩) 1 1) (clm root) :=
  ⟨rfl, .inr ⟨w.heap.size, 1, #[.int .i64 1, .int .i64 1, .int .i64 root, .int .i64 0], rfl, Nat.le_refl _, heap_alloc_new w _, Nat.le_refl _, by unfold maxLen; omega, rfl, rfl⟩⟩
set_option maxRecDepth 100000 in
set_option maxHeartbeats 4000000 in
theorem pnew_any (n : Nat) (A : Option Addr) (l : List (Int × Int)) (c : Nat) (root l0 l1 : Int) (w : World) (hp : RP w A l) (hA : A = none → l = [] ∧ c = 0) (hv : Vld n l) (h0 : 0 ≤ root) (h1 : root < n) (h2 : 1 ≤ l0) (h3 : l0 ≤ 200) (h4 : 0 ≤ l1) (h5 : l1 ≤ 200) :
    Calls Try.prog 7 #[.agg #[.int .i64 (n : Int), .slice A l.length c], .int .i64 root, .agg #[.int .i64 l0, .int .i64 l1]] w (RetApl n l root l0 l1 (clm root) w) := by
  have hll := hv.1.2.1
  have hvE := hv.valE
  have HA := Lib.hid hA; have Hp0 := Lib.hid hp
  have d1 : decide (root < 0) = false := decide_eq_false (by omega)
  have d2 : decide ((n : Int) ≤ root) = false := decide_eq_false (by omega)
  have d3 : decide (l0 < 1) = false := decide_eq_false (by omega)
  have d4 : decide (200 < l0) = false := decide_eq_false (by omega)
  have d5 : decide (l1 < 0) = false := decide_eq_false (by omega)
  have d6 : decide (200 < l1) = false := decide_eq_false (by omega)
  clear hA h0 h1 h2 h3 h4 h5 hv
  go_enter Try.func7, Try.ntmps7
  go_upto_region 1 with fail
  obtain ⟨W0, hW, k0, k1, k2, hb0, hs0⟩ := boxed3A w 28 31 34 #[.int .i64 (n : Int), .slice A l.length c] #[.int .i64 l0, .int .i64 l1] #[.int .i64 0, .slice none 0 0, .int .i64 0, .int .i64 0, .int .i64 0, .slice none 0 0]
  rw [hW]
  obtain ⟨z0, z1, _, _⟩ := k0.two
  obtain ⟨y0, y1, _, _⟩ := k1.two
  have hp0 := hp.below hb0
  clear hW hp
  go_wp2_with fail
  refine (gValidate_any A n l c W0 hp0 hll).mono ?_
  rintro e w1 ⟨rfl, hb1⟩
  rw [hvE]
  have z0 := (hb1.cell (lt_of_cell z0)).trans z0
  have z1 := (hb1.cell (lt_of_cell z1)).trans z1
  have y0 := (hb1.cell (lt_of_cell y0)).trans y0
  have y1 := (hb1.cell (lt_of_cell y1)).trans y1
  have k2 := k2.below hb1 (by omega)
  have hp1 := hp0.below hb1
  have hbb := hb0.trans (hb1.mono hb0.size)
  have hs1 := hb1.size
  clear hvE hp0 hb0 hb1 k0 k1
  go_upto_region 7 with fail
  obtain ⟨w2, hw2, k3, hb2, hs2⟩ := boxedA w1 46 #[.int .i64 1, .int .i64 1, .int .i64 root, .int .i64 0]
  rw [hw2]
  obtain ⟨x0, x1, x2, x3, _, _, _, _⟩ := mvC k3
  have z0 := (hb2.cell (lt_of_cell z0)).trans z0
  have z1 := (hb2.cell (lt_of_cell z1)).trans z1
  have y0 := (hb2.cell (lt_of_cell y0)).trans y0
  have y1 := (hb2.cell (lt_of_cell y1)).trans y1
  have Kt := Lib.hid (k2.below hb2 (by omega))
  have Hp2 := Lib.hid (hp1.below hb2)
  have Hbb := Lib.hid (hbb.trans (hb2.mono hbb.size))
  clear k2 hp1 hbb hw2 k3 hb2
  have hg2 : w.heap.size + 2 < w2.heap.size := by omega
  have HAp := Lib.hid (show ∀ b o, A = some ⟨b, o, none⟩ → 0 < l.length → b ≠ w.heap.size + 2 from fun b o e h0 => by
    obtain ⟨b', o', e', h1, _⟩ := Hp0.out 0 h0
    rw [e] at e'; injection e' with e'; injection e' with e1 _ _
    have h2 : b' < w.heap.size := lt_of_cell h1
    omega)
  refine wp_region_tree [4, 9, 11] (fun w' => Near (w.heap.size + 2) w2.heap.size w2 w') (fun w' => Blk w' (w.heap.size + 2) 34 #[.int .i64 0, .slice none 0 0, .int .i64 0, .int .i64 0, .int .i64 0, .slice none 0 0]) 13 [0, 1, 2, 3, 4, 5, 6, 7, 8, 9, 10, 11, 12] (by rfl) (by decide) (by kernel_rfl) (by kernel_rfl) (Near.of_below (Below.refl _ _).drew) (Kt.out.below (Below.refl _ _).drew hg2) ?_
  refine TxtT.pure 0 (by rfl) (by rw [List.getElem?_toArray]; rfl) (by rfl) (by as_aux_lemma => kernel_rfl) (by rfl) ?_; apply Exists.intro; refine ⟨fun w1 hS1 => ?_, ?_⟩; (focus (skip; go_simp; with_reducible rfl))
  rw [show List.erase [0, 1, 2, 3, 4, 5, 6, 7, 8, 9, 10, 11, 12] 0 = [1, 2, 3, 4, 5, 6, 7, 8, 9, 10, 11, 12] from rfl]; simp only [Act.put, List.setIfInBounds_toArray, List.set_cons_zero, List.set_cons_succ]
  refine TxtT.pure 1 (by rfl) (by rw [List.getElem?_toArray]; rfl) (by rfl) (by as_aux_lemma => kernel_rfl) (by rfl) ?_; apply Exists.intro; refine ⟨fun w1 hS1 => ?_, ?_⟩; (focus ((have gz0 := (near_cell hS1 (lt_of_cell z0) (by dsimp only; omega)).trans z0); go_simp; with_reducible rfl))
  rw [show List.erase [1, 2, 3, 4, 5, 6, 7, 8, 9, 10, 11, 12] 1 = [2, 3, 4, 5, 6, 7, 8, 9, 10, 11, 12] from rfl]; simp only [Act.put, List.setIfInBounds_toArray, List.set_cons_zero, List.set_cons_succ]
  refine TxtT.pure 2 (by rfl) (by rw [List.getElem?_toArray]; rfl) (by rfl) (by as_aux_lemma => kernel_rfl) (by rfl) ?_; apply Exists.intro; refine ⟨fun w1 hS1 => ?_, ?_⟩; (focus (skip; go_simp; with_reducible rfl))
  rw [show List.erase [2, 3, 4, 5, 6, 7, 8, 9, 10, 11, 12] 2 = [3, 4, 5, 6, 7, 8, 9, 10, 11, 12] from rfl]; simp only [Act.put, List.setIfInBounds_toArray, List.set_cons_zero, List.set_cons_succ]
  refine TxtT.pure 3 (by rfl) (by rw [List.getElem?_toArray]; rfl) (by rfl) (by as_aux_lemma => kernel_rfl) (by rfl) ?_; apply Exists.intro; refine ⟨fun w1 hS1 => ?_, ?_⟩; (focus ((have gz1 := (near_cell hS1 (lt_of_cell z1) (by dsimp only; omega)).trans z1); go_simp; with_reducible rfl))
  rw [show List.erase [3, 4, 5, 6, 7, 8, 9, 10, 11, 12] 3 = [4, 5, 6, 7, 8, 9, 10, 11, 12] from rfl]; simp only [Act.put, List.setIfInBounds_toArray, List.set_cons_zero, List.set_cons_succ]
  refine TxtT.pure 6 (by rfl) (by rw [List.getElem?_toArray]; rfl) (by rfl) (by as_aux_lemma => kernel_rfl) (by rfl) ?_; apply Exists.intro; refine ⟨fun w1 hS1 => ?_, ?_⟩; (focus (skip; go_simp; with_reducible rfl))
  rw [show List.erase [4, 5, 6, 7, 8, 9, 10, 11, 12] 6 = [4, 5, 7, 8, 9, 10, 11, 12] from rfl]; simp only [Act.put, List.setIfInBounds_toArray, List.set_cons_zero, List.set_cons_succ]
  refine TxtT.pure 7 (by rfl) (by rw [List.getElem?_toArray]; rfl) (by rfl) (by as_aux_lemma => kernel_rfl) (by rfl) ?_; apply Exists.intro; refine ⟨fun w1 hS1 => ?_, ?_⟩; (focus ((have gy0 := (near_cell hS1 (lt_of_cell y0) (by dsimp only; omega)).trans y0); (have gy1 := (near_cell hS1 (lt_of_cell y1) (by dsimp only; omega)).trans y1); go_simp; with_reducible rfl))
  rw [show List.erase [4, 5, 7, 8, 9, 10, 11, 12] 7 = [4, 5, 8, 9, 10, 11, 12] from rfl]; simp only [Act.put, List.setIfInBounds_toArray, List.set_cons_zero, List.set_cons_succ]
  refine TxtT.pure 8 (by rfl) (by rw [List.getElem?_toArray]; rfl) (by rfl) (by as_aux_lemma => kernel_rfl) (by rfl) ?_; apply Exists.intro; refine ⟨fun w1 hS1 => ?_, ?_⟩; (focus ((have gx0 := (near_cell hS1 (lt_of_cell x0) (by dsimp only; omega)).trans x0); (have gx1 := (near_cell hS1 (lt_of_cell x1) (by dsimp only; omega)).trans x1); (have gx2 := (near_cell hS1 (lt_of_cell x2) (by dsimp only; omega)).trans x2); (have gx3 := (near_cell hS1 (lt_of_cell x3) (by dsimp only; omega)).trans x3); go_simp; with_reducible rfl))
  rw [show List.erase [4, 5, 8, 9, 10, 11, 12] 8 = [4, 5, 9, 10, 11, 12] from rfl]; simp only [Act.put, List.setIfInBounds_toArray, List.set_cons_zero, List.set_cons_succ]
  refine TxtT.two 4 9 (by as_aux_lemma => kernel_rfl) (by rw [List.getElem?_toArray]; rfl) (by rw [List.getElem?_toArray]; rfl) (by rfl) (by rfl) (by rfl) (by rfl) (fun u => ∃ A1 c1, u = Value.slice A1 l.length c1) (fun u w' => Blk w' (w.heap.size + 2) 34 #[.int .i64 0, .slice none 0 0, .int .i64 0, .int .i64 0, .int .i64 0, .slice none 0 0] ∧ OwnP w' w2.heap.size u l) (fun u => ∃ gE, u = Value.slice (some ⟨gE, 0, none⟩) 1 1) (fun u w' => Blk w' (w.heap.size + 2) 34 #[.int .i64 0, .slice none 0 0, .int .i64 0, .int .i64 0, .int .i64 0, .slice none 0 0] ∧ OwnM w' w2.heap.size u (clm root)) (fun w1 hS1 hJ1 => ?_) (fun w1 hS1 hJ1 => ?_) ?_ ?_
  · refine Eff.call (f := 24) (args := #[.slice A l.length c]) (by go_simp) ((clonePs_any A l c w1 (Hp2.out.grownQ hS1.grown HAp.out) HA.out (by omega)).mono ?_)
    rintro e w' ⟨A1, c1, rfl, ho, hb⟩
    exact ⟨_, rfl, hS1.trans (Near.of_below (hb.mono hS1.size)), ⟨A1, c1, rfl⟩, hJ1.below hb hJ1.lt, ownsRow_mono ho hS1.size⟩
  · exact Eff.value (w' := w1.alloc (.cells #[.int .i64 1, .int .i64 1, .int .i64 root, .int .i64 0] 46)) (v := .slice (some ⟨w1.heap.size, 0, none⟩) 1 1) (by go_simp) ⟨hS1.trans (Near.of_below ((newB _ _).mono hS1.size)), ⟨_, rfl⟩, hJ1.alloc _, (own_clm w1 root).mono hS1.size⟩
  ·
    rintro _ ⟨A1, c1, rfl⟩
    rw [show List.erase [4, 5, 9, 10, 11, 12] 4 = [5, 9, 10, 11, 12] from rfl]; simp only [Act.put, List.setIfInBounds_toArray, List.set_cons_zero, List.set_cons_succ]
    refine TxtT.pure 5 (by rfl) (by rw [List.getElem?_toArray]; rfl) (by rfl) (by as_aux_lemma => kernel_rfl) (by rfl) ?_; apply Exists.intro; refine ⟨fun w1 hS1 => ?_, ?_⟩; (focus (skip; go_simp; with_reducible rfl))
    rw [show List.erase [5, 9, 10, 11, 12] 5 = [9, 10, 11, 12] from rfl]; simp only [Act.put, List.setIfInBounds_toArray, List.set_cons_zero, List.set_cons_succ]
    refine TxtT.one 9 (by as_aux_lemma => kernel_rfl) (by rw [List.getElem?_toArray]; rfl) (by rfl) (by rfl) (fun u => ∃ gE, u = Value.slice (some ⟨gE, 0, none⟩) 1 1) (fun u w' => Blk w' (w.heap.size + 2) 34 #[.int .i64 0, .slice none 0 0, .int .i64 0, .int .i64 0, .int .i64 0, .slice none 0 0] ∧ OwnM w' w2.heap.size u (clm root) ∧ OwnP w' w2.heap.size (.slice A1 l.length c1) l) (fun w1 hS1 hJ1 => ?_) ?_
    · exact Eff.value (w' := w1.alloc (.cells #[.int .i64 1, .int .i64 1, .int .i64 root, .int .i64 0] 46)) (v := .slice (some ⟨w1.heap.size, 0, none⟩) 1 1) (by go_simp) ⟨hS1.trans (Near.of_below ((newB _ _).mono hS1.size)), ⟨_, rfl⟩, hJ1.1.alloc _, (own_clm w1 root).mono hS1.size, ownsRow_below hJ1.2 (newB _ _)⟩
    rintro _ ⟨gE, rfl⟩
    rw [show List.erase [9, 10, 11, 12] 9 = [10, 11, 12] from rfl]; simp only [Act.put, List.setIfInBounds_toArray, List.set_cons_zero, List.set_cons_succ]
    refine TxtT.pure 10 (by rfl) (by rw [List.getElem?_toArray]; rfl) (by rfl) (by as_aux_lemma => kernel_rfl) (by rfl) ?_; apply Exists.intro; refine ⟨fun w1 hS1 => ?_, ?_⟩; (focus (skip; go_simp; with_reducible rfl))
    rw [show List.erase [10, 11, 12] 10 = [11, 12] from rfl]; simp only [Act.put, List.setIfInBounds_toArray, List.set_cons_zero, List.set_cons_succ]
    refine TxtT.one 11 (by as_aux_lemma => kernel_rfl) (by rw [List.getElem?_toArray]; rfl) (by rfl) (by rfl) (fun v => v = undef) (fun _ w' => Blk w' (w.heap.size + 2) 34 #[.int .i64 (n : Int), .slice A1 l.length c1, .int .i64 root, .int .i64 l0, .int .i64 l1, .slice (some ⟨gE, 0, none⟩) 1 1] ∧ OwnP w' w2.heap.size (.slice A1 l.length c1) l ∧ OwnM w' w2.heap.size (.slice (some ⟨gE, 0, none⟩) 1 1) (clm root)) (fun w1 hS1 hJ1 => ?_) ?_
    · obtain ⟨g0, g1, g2, g3, g4, g5⟩ := dgC hJ1.1
      obtain ⟨f0, f1, f2, f3, f4, f5⟩ := dgF hJ1.1
      exact Eff.skip (w' := (((((w1.setCell ⟨w.heap.size + 2, 0, none⟩ (.int .i64 (n : Int))).setCell ⟨w.heap.size + 2, 1, none⟩ (.slice A1 l.length c1)).setCell ⟨w.heap.size + 2, 2, none⟩ (.int .i64 root)).setCell ⟨w.heap.size + 2, 3, none⟩ (.int .i64 l0)).setCell ⟨w.heap.size + 2, 4, none⟩ (.int .i64 l1)).setCell ⟨w.heap.size + 2, 5, none⟩ (.slice (some ⟨gE, 0, none⟩) 1 1)) (by go_simp) ⟨near_set6 hS1 .., rfl, set6 hJ1.1 .., own_set6 hJ1.2.2 hg2 .., own_set6 hJ1.2.1 hg2 ..⟩
    rintro _ rfl
    rw [show List.erase [11, 12] 11 = [12] from rfl]; simp only [Act.put]
    refine TxtT.pure 12 (by rfl) (by rw [List.getElem?_toArray]; rfl) (by rfl) (by as_aux_lemma => kernel_rfl) (by rfl) ?_; apply Exists.intro; refine ⟨fun w1 hS1 => ?_, ?_⟩; (focus (skip; go_simp; with_reducible rfl))
    rw [show List.erase [12] 12 = [] from rfl]; simp only [Act.put, List.setIfInBounds_toArray, List.set_cons_zero, List.set_cons_succ]
    refine ⟨rfl, fun w1 hS1 hJ1 => ?_⟩
    obtain ⟨r0, r1, r2, r3, r4, r5⟩ := dgC hJ1.1
    have HJ := Lib.hid hJ1.2; have HS := Lib.hid (Hbb.out.trans ((near_below hS1 hg2).mono (by omega)))
    clear hJ1 hS1
    go_wp2_with fail
    refine bodyPost_ret (v := .tuple #[.agg #[.int .i64 (n : Int), .slice A1 l.length c1, .int .i64 root, .int .i64 l0, .int .i64 l1, .slice (some ⟨gE, 0, none⟩) 1 1], .int .i64 0]) (by simp [results, Try.results7, go_sem, r0, r1, r2, r3, r4, r5]) rfl ?_
    exact ⟨A1, c1, some ⟨gE, 0, none⟩, 1, rfl, ownsRow_mono HJ.out.1 (by omega), HJ.out.2.mono (by omega), HS.out⟩
  ·
    rintro _ ⟨gE, rfl⟩
    rw [show List.erase [4, 5, 9, 10, 11, 12] 9 = [4, 5, 10, 11, 12] from rfl]; simp only [Act.put, List.setIfInBounds_toArray, List.set_cons_zero, List.set_cons_succ]
    refine TxtT.one 4 (by as_aux_lemma => kernel_rfl) (by rw [List.getElem?_toArray]; rfl) (by rfl) (by rfl) (fun u => ∃ A1 c1, u = Value.slice A1 l.length c1) (fun u w' => Blk w' (w.heap.size + 2) 34 #[.int .i64 0, .slice none 0 0, .int .i64 0, .int .i64 0, .int .i64 0, .slice none 0 0] ∧ OwnP w' w2.heap.size u l ∧ OwnM w' w2.heap.size (.slice (some ⟨gE, 0, none⟩) 1 1) (clm root)) (fun w1 hS1 hJ1 => ?_) ?_
    · refine Eff.call (f := 24) (args := #[.slice A l.length c]) (by go_simp) ((clonePs_any A l c w1 (Hp2.out.grownQ hS1.grown HAp.out) HA.out (by omega)).mono ?_)
      rintro e w' ⟨A1, c1, rfl, ho, hb⟩
      exact ⟨_, rfl, hS1.trans (Near.of_below (hb.mono hS1.size)), ⟨A1, c1, rfl⟩, hJ1.1.below hb hJ1.1.lt, ownsRow_mono ho hS1.size, OwnM.below hJ1.2 hb⟩
    rintro _ ⟨A1, c1, rfl⟩
    rw [show List.erase [4, 5, 10, 11, 12] 4 = [5, 10, 11, 12] from rfl]; simp only [Act.put, List.setIfInBounds_toArray, List.set_cons_zero, List.set_cons_succ]
    refine TxtT.pure 5 (by rfl) (by rw [List.getElem?_toArray]; rfl) (by rfl) (by as_aux_lemma => kernel_rfl) (by rfl) ?_; apply Exists.intro; refine ⟨fun w1 hS1 => ?_, ?_⟩; (focus (skip; go_simp; with_reducible rfl))
    rw [show List.erase [5, 10, 11, 12] 5 = [10, 11, 12] from rfl]; simp only [Act.put, List.setIfInBounds_toArray, List.set_cons_zero, List.set_cons_succ]
    refine TxtT.pure 10 (by rfl) (by rw [List.getElem?_toArray]; rfl) (by rfl) (by as_aux_lemma => kernel_rfl) (by rfl) ?_; apply Exists.intro; refine ⟨fun w1 hS1 => ?_, ?_⟩; (focus (skip; go_simp; with_reducible rfl))
    rw [show List.erase [10, 11, 12] 10 = [11, 12] from rfl]; simp only [Act.put, List.setIfInBounds_toArray, List.set_cons_zero, List.set_cons_succ]
    refine TxtT.one 11 (by as_aux_lemma => kernel_rfl) (by rw [List.getElem?_toArray]; rfl) (by rfl) (by rfl) (fun v => v = undef) (fun _ w' => Blk w' (w.heap.size + 2) 34 #[.int .i64 (n : Int), .slice A1 l.length c1, .int .i64 root, .int .i64 l0, .int .i64 l1, .slice (some ⟨gE, 0, none⟩) 1 1] ∧ OwnP w' w2.heap.size (.slice A1 l.length c1) l ∧ OwnM w' w2.heap.size (.slice (some ⟨gE, 0, none⟩) 1 1) (clm root)) (fun w1 hS1 hJ1 => ?_) ?_
    · obtain ⟨g0, g1, g2, g3, g4, g5⟩ := dgC hJ1.1
      obtain ⟨f0, f1, f2, f3, f4, f5⟩ := dgF hJ1.1
      exact Eff.skip (w' := (((((w1.setCell ⟨w.heap.size + 2, 0, none⟩ (.int .i64 (n : Int))).setCell ⟨w.heap.size + 2, 1, none⟩ (.slice A1 l.length c1)).setCell ⟨w.heap.size + 2, 2, none⟩ (.int .i64 root)).setCell ⟨w.heap.size + 2, 3, none⟩ (.int .i64 l0)).setCell ⟨w.heap.size + 2, 4, none⟩ (.int .i64 l1)).setCell ⟨w.heap.size + 2, 5, none⟩ (.slice (some ⟨gE, 0, none⟩) 1 1)) (by go_simp) ⟨near_set6 hS1 .., rfl, set6 hJ1.1 .., own_set6 hJ1.2.1 hg2 .., own_set6 hJ1.2.2 hg2 ..⟩
    rintro _ rfl
    rw [show List.erase [11, 12] 11 = [12] from rfl]; simp only [Act.put]
    refine TxtT.pure 12 (by rfl) (by rw [List.getElem?_toArray]; rfl) (by rfl) (by as_aux_lemma => kernel_rfl) (by rfl) ?_; apply Exists.intro; refine ⟨fun w1 hS1 => ?_, ?_⟩; (focus (skip; go_simp; with_reducible rfl))
    rw [show List.erase [12] 12 = [] from rfl]; simp only [Act.put, List.setIfInBounds_toArray, List.set_cons_zero, List.set_cons_succ]
    refine ⟨rfl, fun w1 hS1 hJ1 => ?_⟩
    obtain ⟨r0, r1, r2, r3, r4, r5⟩ := dgC hJ1.1
    have HJ := Lib.hid hJ1.2; have HS := Lib.hid (Hbb.out.trans ((near_below hS1 hg2).mono (by omega)))
    clear hJ1 hS1
    go_wp2_with fail
    refine bodyPost_ret (v := .tuple #[.agg #[.int .i64 (n : Int), .slice A1 l.length c1, .int .i64 root, .int .i64 l0, .int .i64 l1, .slice (some ⟨gE, 0, none⟩) 1 1], .int .i64 0]) (by simp [results, Try.results7, go_sem, r0, r1, r2, r3, r4, r5]) rfl ?_
    exact ⟨A1, c1, some ⟨gE, 0, none⟩, 1, rfl, ownsRow_mono HJ.out.1 (by omega), HJ.out.2.mono (by omega), HS.out⟩
end Go.Proofs.Ythkknlnfdckdfaa
