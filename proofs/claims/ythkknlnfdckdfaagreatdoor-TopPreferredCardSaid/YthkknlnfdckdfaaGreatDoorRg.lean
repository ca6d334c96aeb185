import Derived.Test.YthkknlnfdckdfaaGreatDoorPn
/- protocol.New; referee.Record. (New's region of two orders is printed by gen_new.py.) -/
namespace Go.Proofs.YthkknlnfdckdfaaGreatDoor
open Go.ChangeShapes Go.WideShapes Go.ChangeAt Go.RowKit

theorem near_cellx {p B : Nat} {a w : World} (h : Near p B a w) {x : Addr} (hx : x.block < B) (hp : x.block ≠ p) : w.cell? x = a.cell? x := by
  unfold World.cell?
  rw [h.block x.block hx hp]
theorem own_clm (w : World) (root : Int) : OwnM (w.alloc (.cells #[.int .i64 1, .int .i64 1, .int .i64 root, .int .i64 0] 89)) w.heap.size (.slice (some ⟨w.heap.size, 0, none⟩) 1 1) (clm root) :=
  ⟨rfl, .inr ⟨w.heap.size, 1, #[.int .i64 1, .int .i64 1, .int .i64 root, .int .i64 0], rfl, Nat.le_refl _, heap_alloc_new w _, Nat.le_refl _, by unfold maxLen; omega, rfl, rfl⟩⟩
set_option maxRecDepth 100000 in
set_option maxHeartbeats 4000000 in
theorem pnew_any (n : Nat) (A : Option Addr) (l : List (Int × Int)) (c : Nat) (root l0 l1 : Int) (w : World) (hp : RP w A l) (hA : A = none → l = [] ∧ c = 0) (hv : Vld n l) (h0 : 0 ≤ root) (h1 : root < n) (h2 : 1 ≤ l0) (h3 : l0 ≤ 200) (h4 : 0 ≤ l1) (h5 : l1 ≤ 200) :
    Calls Tryz.prog 16 #[.agg #[.int .i64 (n : Int), .slice A l.length c], .int .i64 root, .agg #[.int .i64 l0, .int .i64 l1]] w (RetApl n l root l0 l1 (clm root) w) := by
  have hll := hv.1.2.1
  have hvE := hv.valE
  have HA := Lib.hid hA; have Hp0 := Lib.hid hp
  have d1 : decide (root < 0) = false := decide_eq_false (by omega)
  have d2 : decide ((n : Int) ≤ root) = false := decide_eq_false (by omega)
  have d3 : decide (l0 < 1) = false := decide_eq_false (by omega)
  have d4 : decide (200 < l0) = false := decide_eq_false (by omega)
  have d5 : decide (l1 < 0) = false := decide_eq_false (by omega)
  have d6 : decide (200 < l1) = false := decide_eq_false (by omega)
  clear hA h0 h1 h2 h3 h4 h5 hv
  go_enter Tryz.func16, Tryz.ntmps16
  go_upto_region 1 with fail
  obtain ⟨W0, hW, k0, k1, k2, hb0, hs0⟩ := boxed3A w 27 52 55 #[.int .i64 (n : Int), .slice A l.length c] #[.int .i64 l0, .int .i64 l1] #[.int .i64 0, .slice none 0 0, .int .i64 0, .int .i64 0, .int .i64 0, .slice none 0 0]
  rw [hW]
  obtain ⟨z0, z1, _, _⟩ := k0.two
  obtain ⟨y0, y1, _, _⟩ := k1.two
  have hp0 := hp.below hb0
  clear hW hp
  go_wp2_with fail
  refine (gValidate_any A n l c W0 hp0 hll).mono ?_
  rintro e w1 ⟨rfl, hb1⟩
  rw [hvE]
  have z0 := (hb1.cell (lt_of_cell z0)).trans z0
  have z1 := (hb1.cell (lt_of_cell z1)).trans z1
  have y0 := (hb1.cell (lt_of_cell y0)).trans y0
  have y1 := (hb1.cell (lt_of_cell y1)).trans y1
  have k2 := k2.below hb1 (by omega)
  have hp1 := hp0.below hb1
  have hbb := hb0.trans (hb1.mono hb0.size)
  have hs1 := hb1.size
  clear hvE hp0 hb0 hb1 k0 k1
  go_upto_region 7 with fail
  obtain ⟨w2, hw2, k3, hb2, hs2⟩ := boxedA w1 89 #[.int .i64 1, .int .i64 1, .int .i64 root, .int .i64 0]
  rw [hw2]
  obtain ⟨x0, x1, x2, x3, _, _, _, _⟩ := mvC k3
  have z0 := (hb2.cell (lt_of_cell z0)).trans z0
  have z1 := (hb2.cell (lt_of_cell z1)).trans z1
  have y0 := (hb2.cell (lt_of_cell y0)).trans y0
  have y1 := (hb2.cell (lt_of_cell y1)).trans y1
  have Kt := Lib.hid (k2.below hb2 (by omega))
  have Hp2 := Lib.hid (hp1.below hb2)
  have Hbb := Lib.hid (hbb.trans (hb2.mono hbb.size))
  clear k2 hp1 hbb hw2 k3 hb2
  have hg2 : w.heap.size + 2 < w2.heap.size := by omega
  have HAp := Lib.hid (show ∀ b o, A = some ⟨b, o, none⟩ → 0 < l.length → b ≠ w.heap.size + 2 from fun b o e h0 => by
    obtain ⟨b', o', e', h1, _⟩ := Hp0.out 0 h0
    rw [e] at e'; injection e' with e'; injection e' with e1 _ _
    have h2 : b' < w.heap.size := lt_of_cell h1
    omega)
  refine wp_region_tree [4, 9, 11] (fun w' => Near (w.heap.size + 2) w2.heap.size w2 w') (fun w' => Blk w' (w.heap.size + 2) 55 #[.int .i64 0, .slice none 0 0, .int .i64 0, .int .i64 0, .int .i64 0, .slice none 0 0]) 13 [0, 1, 2, 3, 4, 5, 6, 7, 8, 9, 10, 11, 12] (by rfl) (by decide) (by kernel_rfl) (by kernel_rfl) (Near.of_below (Below.refl _ _).drew) (Kt.out.below (Below.refl _ _).drew hg2) ?_
  refine TxtT.pure 0 (by rfl) (by rw [List.getElem?_toArray]; rfl) (by rfl) (by as_aux_lemma => kernel_rfl) (by rfl) ?_; apply Exists.intro; refine ⟨fun w1 hS1 => ?_, ?_⟩; (focus (skip; go_simp; with_reducible rfl))
  rw [show List.erase [0, 1, 2, 3, 4, 5, 6, 7, 8, 9, 10, 11, 12] 0 = [1, 2, 3, 4, 5, 6, 7, 8, 9, 10, 11, 12] from rfl]; simp only [Act.put, List.setIfInBounds_toArray, List.set_cons_zero, List.set_cons_succ]
  refine TxtT.pure 1 (by rfl) (by rw [List.getElem?_toArray]; rfl) (by rfl) (by as_aux_lemma => kernel_rfl) (by rfl) ?_; apply Exists.intro; refine ⟨fun w1 hS1 => ?_, ?_⟩; (focus ((have gz0 := (near_cellx hS1 (lt_of_cell z0) (by dsimp only; omega)).trans z0); go_simp; with_reducible rfl))
  rw [show List.erase [1, 2, 3, 4, 5, 6, 7, 8, 9, 10, 11, 12] 1 = [2, 3, 4, 5, 6, 7, 8, 9, 10, 11, 12] from rfl]; simp only [Act.put, List.setIfInBounds_toArray, List.set_cons_zero, List.set_cons_succ]
  refine TxtT.pure 2 (by rfl) (by rw [List.getElem?_toArray]; rfl) (by rfl) (by as_aux_lemma => kernel_rfl) (by rfl) ?_; apply Exists.intro; refine ⟨fun w1 hS1 => ?_, ?_⟩; (focus (skip; go_simp; with_reducible rfl))
  rw [show List.erase [2, 3, 4, 5, 6, 7, 8, 9, 10, 11, 12] 2 = [3, 4, 5, 6, 7, 8, 9, 10, 11, 12] from rfl]; simp only [Act.put, List.setIfInBounds_toArray, List.set_cons_zero, List.set_cons_succ]
  refine TxtT.pure 3 (by rfl) (by rw [List.getElem?_toArray]; rfl) (by rfl) (by as_aux_lemma => kernel_rfl) (by rfl) ?_; apply Exists.intro; refine ⟨fun w1 hS1 => ?_, ?_⟩; (focus ((have gz1 := (near_cellx hS1 (lt_of_cell z1) (by dsimp only; omega)).trans z1); go_simp; with_reducible rfl))
  rw [show List.erase [3, 4, 5, 6, 7, 8, 9, 10, 11, 12] 3 = [4, 5, 6, 7, 8, 9, 10, 11, 12] from rfl]; simp only [Act.put, List.setIfInBounds_toArray, List.set_cons_zero, List.set_cons_succ]
  refine TxtT.pure 6 (by rfl) (by rw [List.getElem?_toArray]; rfl) (by rfl) (by as_aux_lemma => kernel_rfl) (by rfl) ?_; apply Exists.intro; refine ⟨fun w1 hS1 => ?_, ?_⟩; (focus (skip; go_simp; with_reducible rfl))
  rw [show List.erase [4, 5, 6, 7, 8, 9, 10, 11, 12] 6 = [4, 5, 7, 8, 9, 10, 11, 12] from rfl]; simp only [Act.put, List.setIfInBounds_toArray, List.set_cons_zero, List.set_cons_succ]
  refine TxtT.pure 7 (by rfl) (by rw [List.getElem?_toArray]; rfl) (by rfl) (by as_aux_lemma => kernel_rfl) (by rfl) ?_; apply Exists.intro; refine ⟨fun w1 hS1 => ?_, ?_⟩; (focus ((have gy0 := (near_cellx hS1 (lt_of_cell y0) (by dsimp only; omega)).trans y0); (have gy1 := (near_cellx hS1 (lt_of_cell y1) (by dsimp only; omega)).trans y1); go_simp; with_reducible rfl))
  rw [show List.erase [4, 5, 7, 8, 9, 10, 11, 12] 7 = [4, 5, 8, 9, 10, 11, 12] from rfl]; simp only [Act.put, List.setIfInBounds_toArray, List.set_cons_zero, List.set_cons_succ]
  refine TxtT.pure 8 (by rfl) (by rw [List.getElem?_toArray]; rfl) (by rfl) (by as_aux_lemma => kernel_rfl) (by rfl) ?_; apply Exists.intro; refine ⟨fun w1 hS1 => ?_, ?_⟩; (focus ((have gx0 := (near_cellx hS1 (lt_of_cell x0) (by dsimp only; omega)).trans x0); (have gx1 := (near_cellx hS1 (lt_of_cell x1) (by dsimp only; omega)).trans x1); (have gx2 := (near_cellx hS1 (lt_of_cell x2) (by dsimp only; omega)).trans x2); (have gx3 := (near_cellx hS1 (lt_of_cell x3) (by dsimp only; omega)).trans x3); go_simp; with_reducible rfl))
  rw [show List.erase [4, 5, 8, 9, 10, 11, 12] 8 = [4, 5, 9, 10, 11, 12] from rfl]; simp only [Act.put, List.setIfInBounds_toArray, List.set_cons_zero, List.set_cons_succ]
  refine TxtT.two 4 9 (by as_aux_lemma => kernel_rfl) (by rw [List.getElem?_toArray]; rfl) (by rw [List.getElem?_toArray]; rfl) (by rfl) (by rfl) (by rfl) (by rfl) (fun u => ∃ A1 c1, u = Value.slice A1 l.length c1) (fun u w' => Blk w' (w.heap.size + 2) 55 #[.int .i64 0, .slice none 0 0, .int .i64 0, .int .i64 0, .int .i64 0, .slice none 0 0] ∧ OwnP w' w2.heap.size u l) (fun u => ∃ gE, u = Value.slice (some ⟨gE, 0, none⟩) 1 1) (fun u w' => Blk w' (w.heap.size + 2) 55 #[.int .i64 0, .slice none 0 0, .int .i64 0, .int .i64 0, .int .i64 0, .slice none 0 0] ∧ OwnM w' w2.heap.size u (clm root)) (fun w1 hS1 hJ1 => ?_) (fun w1 hS1 hJ1 => ?_) ?_ ?_
  · refine Eff.call (f := 41) (args := #[.slice A l.length c]) (by go_simp) ((clonePs_any A l c w1 (Hp2.out.grownQ hS1.grown HAp.out) HA.out (by omega)).mono ?_)
    rintro e w' ⟨A1, c1, rfl, ho, hb⟩
    exact ⟨_, rfl, hS1.trans (Near.of_below (hb.mono hS1.size)), ⟨A1, c1, rfl⟩, hJ1.below hb hJ1.lt, ownsRow_mono ho hS1.size⟩
  · exact Eff.value (w' := w1.alloc (.cells #[.int .i64 1, .int .i64 1, .int .i64 root, .int .i64 0] 89)) (v := .slice (some ⟨w1.heap.size, 0, none⟩) 1 1) (by go_simp) ⟨hS1.trans (Near.of_below ((newB _ _).mono hS1.size)), ⟨_, rfl⟩, hJ1.alloc _, (own_clm w1 root).mono hS1.size⟩
  ·
    rintro _ ⟨A1, c1, rfl⟩
    rw [show List.erase [4, 5, 9, 10, 11, 12] 4 = [5, 9, 10, 11, 12] from rfl]; simp only [Act.put, List.setIfInBounds_toArray, List.set_cons_zero, List.set_cons_succ]
    refine TxtT.pure 5 (by rfl) (by rw [List.getElem?_toArray]; rfl) (by rfl) (by as_aux_lemma => kernel_rfl) (by rfl) ?_; apply Exists.intro; refine ⟨fun w1 hS1 => ?_, ?_⟩; (focus (skip; go_simp; with_reducible rfl))
    rw [show List.erase [5, 9, 10, 11, 12] 5 = [9, 10, 11, 12] from rfl]; simp only [Act.put, List.setIfInBounds_toArray, List.set_cons_zero, List.set_cons_succ]
    refine TxtT.one 9 (by as_aux_lemma => kernel_rfl) (by rw [List.getElem?_toArray]; rfl) (by rfl) (by rfl) (fun u => ∃ gE, u = Value.slice (some ⟨gE, 0, none⟩) 1 1) (fun u w' => Blk w' (w.heap.size + 2) 55 #[.int .i64 0, .slice none 0 0, .int .i64 0, .int .i64 0, .int .i64 0, .slice none 0 0] ∧ OwnM w' w2.heap.size u (clm root) ∧ OwnP w' w2.heap.size (.slice A1 l.length c1) l) (fun w1 hS1 hJ1 => ?_) ?_
    · exact Eff.value (w' := w1.alloc (.cells #[.int .i64 1, .int .i64 1, .int .i64 root, .int .i64 0] 89)) (v := .slice (some ⟨w1.heap.size, 0, none⟩) 1 1) (by go_simp) ⟨hS1.trans (Near.of_below ((newB _ _).mono hS1.size)), ⟨_, rfl⟩, hJ1.1.alloc _, (own_clm w1 root).mono hS1.size, ownsRow_below hJ1.2 (newB _ _)⟩
    rintro _ ⟨gE, rfl⟩
    rw [show List.erase [9, 10, 11, 12] 9 = [10, 11, 12] from rfl]; simp only [Act.put, List.setIfInBounds_toArray, List.set_cons_zero, List.set_cons_succ]
    refine TxtT.pure 10 (by rfl) (by rw [List.getElem?_toArray]; rfl) (by rfl) (by as_aux_lemma => kernel_rfl) (by rfl) ?_; apply Exists.intro; refine ⟨fun w1 hS1 => ?_, ?_⟩; (focus (skip; go_simp; with_reducible rfl))
    rw [show List.erase [10, 11, 12] 10 = [11, 12] from rfl]; simp only [Act.put, List.setIfInBounds_toArray, List.set_cons_zero, List.set_cons_succ]
    refine TxtT.one 11 (by as_aux_lemma => kernel_rfl) (by rw [List.getElem?_toArray]; rfl) (by rfl) (by rfl) (fun v => v = undef) (fun _ w' => Blk w' (w.heap.size + 2) 55 #[.int .i64 (n : Int), .slice A1 l.length c1, .int .i64 root, .int .i64 l0, .int .i64 l1, .slice (some ⟨gE, 0, none⟩) 1 1] ∧ OwnP w' w2.heap.size (.slice A1 l.length c1) l ∧ OwnM w' w2.heap.size (.slice (some ⟨gE, 0, none⟩) 1 1) (clm root)) (fun w1 hS1 hJ1 => ?_) ?_
    · obtain ⟨g0, g1, g2, g3, g4, g5⟩ := dgC hJ1.1
      obtain ⟨f0, f1, f2, f3, f4, f5⟩ := dgF hJ1.1
      exact Eff.skip (w' := (((((w1.setCell ⟨w.heap.size + 2, 0, none⟩ (.int .i64 (n : Int))).setCell ⟨w.heap.size + 2, 1, none⟩ (.slice A1 l.length c1)).setCell ⟨w.heap.size + 2, 2, none⟩ (.int .i64 root)).setCell ⟨w.heap.size + 2, 3, none⟩ (.int .i64 l0)).setCell ⟨w.heap.size + 2, 4, none⟩ (.int .i64 l1)).setCell ⟨w.heap.size + 2, 5, none⟩ (.slice (some ⟨gE, 0, none⟩) 1 1)) (by go_simp) ⟨near_set6 hS1 .., rfl, set6 hJ1.1 .., own_set6 hJ1.2.2 hg2 .., own_set6 hJ1.2.1 hg2 ..⟩
    rintro _ rfl
    rw [show List.erase [11, 12] 11 = [12] from rfl]; simp only [Act.put]
    refine TxtT.pure 12 (by rfl) (by rw [List.getElem?_toArray]; rfl) (by rfl) (by as_aux_lemma => kernel_rfl) (by rfl) ?_; apply Exists.intro; refine ⟨fun w1 hS1 => ?_, ?_⟩; (focus (skip; go_simp; with_reducible rfl))
    rw [show List.erase [12] 12 = [] from rfl]; simp only [Act.put, List.setIfInBounds_toArray, List.set_cons_zero, List.set_cons_succ]
    refine ⟨rfl, fun w1 hS1 hJ1 => ?_⟩
    obtain ⟨r0, r1, r2, r3, r4, r5⟩ := dgC hJ1.1
    have HJ := Lib.hid hJ1.2; have HS := Lib.hid (Hbb.out.trans ((near_below hS1 hg2).mono (by omega)))
    clear hJ1 hS1
    go_wp2_with fail
    refine bodyPost_ret (v := .tuple #[.agg #[.int .i64 (n : Int), .slice A1 l.length c1, .int .i64 root, .int .i64 l0, .int .i64 l1, .slice (some ⟨gE, 0, none⟩) 1 1], .int .i64 0]) (by simp [results, Tryz.results16, go_sem, r0, r1, r2, r3, r4, r5]) rfl ?_
    exact ⟨A1, c1, some ⟨gE, 0, none⟩, 1, rfl, ownsRow_mono HJ.out.1 (by omega), HJ.out.2.mono (by omega), HS.out⟩
  ·
    rintro _ ⟨gE, rfl⟩
    rw [show List.erase [4, 5, 9, 10, 11, 12] 9 = [4, 5, 10, 11, 12] from rfl]; simp only [Act.put, List.setIfInBounds_toArray, List.set_cons_zero, List.set_cons_succ]
    refine TxtT.one 4 (by as_aux_lemma => kernel_rfl) (by rw [List.getElem?_toArray]; rfl) (by rfl) (by rfl) (fun u => ∃ A1 c1, u = Value.slice A1 l.length c1) (fun u w' => Blk w' (w.heap.size + 2) 55 #[.int .i64 0, .slice none 0 0, .int .i64 0, .int .i64 0, .int .i64 0, .slice none 0 0] ∧ OwnP w' w2.heap.size u l ∧ OwnM w' w2.heap.size (.slice (some ⟨gE, 0, none⟩) 1 1) (clm root)) (fun w1 hS1 hJ1 => ?_) ?_
    · refine Eff.call (f := 41) (args := #[.slice A l.length c]) (by go_simp) ((clonePs_any A l c w1 (Hp2.out.grownQ hS1.grown HAp.out) HA.out (by omega)).mono ?_)
      rintro e w' ⟨A1, c1, rfl, ho, hb⟩
      exact ⟨_, rfl, hS1.trans (Near.of_below (hb.mono hS1.size)), ⟨A1, c1, rfl⟩, hJ1.1.below hb hJ1.1.lt, ownsRow_mono ho hS1.size, OwnM.below hJ1.2 hb⟩
    rintro _ ⟨A1, c1, rfl⟩
    rw [show List.erase [4, 5, 10, 11, 12] 4 = [5, 10, 11, 12] from rfl]; simp only [Act.put, List.setIfInBounds_toArray, List.set_cons_zero, List.set_cons_succ]
    refine TxtT.pure 5 (by rfl) (by rw [List.getElem?_toArray]; rfl) (by rfl) (by as_aux_lemma => kernel_rfl) (by rfl) ?_; apply Exists.intro; refine ⟨fun w1 hS1 => ?_, ?_⟩; (focus (skip; go_simp; with_reducible rfl))
    rw [show List.erase [5, 10, 11, 12] 5 = [10, 11, 12] from rfl]; simp only [Act.put, List.setIfInBounds_toArray, List.set_cons_zero, List.set_cons_succ]
    refine TxtT.pure 10 (by rfl) (by rw [List.getElem?_toArray]; rfl) (by rfl) (by as_aux_lemma => kernel_rfl) (by rfl) ?_; apply Exists.intro; refine ⟨fun w1 hS1 => ?_, ?_⟩; (focus (skip; go_simp; with_reducible rfl))
    rw [show List.erase [10, 11, 12] 10 = [11, 12] from rfl]; simp only [Act.put, List.setIfInBounds_toArray, List.set_cons_zero, List.set_cons_succ]
    refine TxtT.one 11 (by as_aux_lemma => kernel_rfl) (by rw [List.getElem?_toArray]; rfl) (by rfl) (by rfl) (fun v => v = undef) (fun _ w' => Blk w' (w.heap.size + 2) 55 #[.int .i64 (n : Int), .slice A1 l.length c1, .int .i64 root, .int .i64 l0, .int .i64 l1, .slice (some ⟨gE, 0, none⟩) 1 1] ∧ OwnP w' w2.heap.size (.slice A1 l.length c1) l ∧ OwnM w' w2.heap.size (.slice (some ⟨gE, 0, none⟩) 1 1) (clm root)) (fun w1 hS1 hJ1 => ?_) ?_
    · obtain ⟨g0, g1, g2, g3, g4, g5⟩ := dgC hJ1.1
      obtain ⟨f0, f1, f2, f3, f4, f5⟩ := dgF hJ1.1
      exact Eff.skip (w' := (((((w1.setCell ⟨w.heap.size + 2, 0, none⟩ (.int .i64 (n : Int))).setCell ⟨w.heap.size + 2, 1, none⟩ (.slice A1 l.length c1)).setCell ⟨w.heap.size + 2, 2, none⟩ (.int .i64 root)).setCell ⟨w.heap.size + 2, 3, none⟩ (.int .i64 l0)).setCell ⟨w.heap.size + 2, 4, none⟩ (.int .i64 l1)).setCell ⟨w.heap.size + 2, 5, none⟩ (.slice (some ⟨gE, 0, none⟩) 1 1)) (by go_simp) ⟨near_set6 hS1 .., rfl, set6 hJ1.1 .., own_set6 hJ1.2.1 hg2 .., own_set6 hJ1.2.2 hg2 ..⟩
    rintro _ rfl
    rw [show List.erase [11, 12] 11 = [12] from rfl]; simp only [Act.put]
    refine TxtT.pure 12 (by rfl) (by rw [List.getElem?_toArray]; rfl) (by rfl) (by as_aux_lemma => kernel_rfl) (by rfl) ?_; apply Exists.intro; refine ⟨fun w1 hS1 => ?_, ?_⟩; (focus (skip; go_simp; with_reducible rfl))
    rw [show List.erase [12] 12 = [] from rfl]; simp only [Act.put, List.setIfInBounds_toArray, List.set_cons_zero, List.set_cons_succ]
    refine ⟨rfl, fun w1 hS1 hJ1 => ?_⟩
    obtain ⟨r0, r1, r2, r3, r4, r5⟩ := dgC hJ1.1
    have HJ := Lib.hid hJ1.2; have HS := Lib.hid (Hbb.out.trans ((near_below hS1 hg2).mono (by omega)))
    clear hJ1 hS1
    go_wp2_with fail
    refine bodyPost_ret (v := .tuple #[.agg #[.int .i64 (n : Int), .slice A1 l.length c1, .int .i64 root, .int .i64 l0, .int .i64 l1, .slice (some ⟨gE, 0, none⟩) 1 1], .int .i64 0]) (by simp [results, Tryz.results16, go_sem, r0, r1, r2, r3, r4, r5]) rfl ?_
    exact ⟨A1, c1, some ⟨gE, 0, none⟩, 1, rfl, ownsRow_mono HJ.out.1 (by omega), HJ.out.2.mono (by omega), HS.out⟩
end Go.Proofs.YthkknlnfdckdfaaGreatDoor

/- Package referee: Record, Replay, Judge. -/
namespace Go.Proofs.YthkknlnfdckdfaaGreatDoor
open Go.ChangeShapes Go.WideShapes Go.ChangeAt Go.RowKit

/-- the call returns the transcript of a dialogue -/
def RetRec (n : Nat) (l : List (Int × Int)) (root l0 l1 : Int) (ms : List Mv) (w : World) : Ending → World → Prop := fun e w' => ∃ A c M cm, e = .returned (.agg #[.int .i64 (n : Int), .slice A l.length c, .int .i64 root, .int .i64 l0, .int .i64 l1, .slice M ms.length cm]) ∧ OwnP w' w.heap.size (.slice A l.length c) l ∧ OwnM w' w.heap.size (.slice M ms.length cm) ms ∧ Below w.heap.size w w'
set_option maxRecDepth 100000 in
set_option maxHeartbeats 4000000 in
theorem record_any (n : Nat) (A : Option Addr) (l : List (Int × Int)) (c : Nat) (root l0 l1 : Int) (M : Option Addr) (ms : List Mv) (cm : Nat) (w : World) (hp : RP w A l) (hA : A = none → l = [] ∧ c = 0) (hll : l.length ≤ 1600) (hr : RM w M ms) (hM : M = none → ms = [] ∧ cm = 0) (hl : ms.length ≤ 300) :
    Calls Tryz.prog 20 #[.agg #[.int .i64 (n : Int), .slice A l.length c, .int .i64 root, .int .i64 l0, .int .i64 l1, .slice M ms.length cm]] w (RetRec n l root l0 l1 ms w) := by
  go_enter Tryz.func20, Tryz.ntmps20
  go_upto_region 1 with fail
  obtain ⟨W0, hW, k0, k1, hb0, hs0⟩ := boxed2A w 55 66 #[.int .i64 (n : Int), .slice A l.length c, .int .i64 root, .int .i64 l0, .int .i64 l1, .slice M ms.length cm] #[.int .i64 0, .slice none 0 0, .int .i64 0, .int .i64 0, .int .i64 0, .slice none 0 0]
  rw [hW]
  have hp0 := hp.below hb0; have hr0 := hr.below hb0
  clear hW hp hr
  refine wp_region_textZ [6, 14, 16] (fun w' => Below W0.heap.size W0 w') (fun _ => True) (by kernel_rfl) (by kernel_rfl) (by kernel_rfl) (by kernel_rfl) (Below.refl _ _).drew trivial ?_
  repeat (first
    | (refine TxtZL.skip (by rfl) ?_; simp only [Act.put, List.setIfInBounds_toArray, List.set_cons_zero, List.set_cons_succ])
    | (refine TxtZL.take (by rfl) (by rfl) ?_; apply Exists.intro; refine ⟨fun w1 hS1 => ?_, ?_⟩; (focus ((obtain ⟨g0, g1, g2, g3, g4, g5⟩ := dgC (k0.below hS1 (by omega))); go_simp; with_reducible rfl)); simp only [Act.put, List.setIfInBounds_toArray, List.set_cons_zero, List.set_cons_succ])
    | (refine TxtZL.takeE' (by rfl) (by rfl) ?_; apply Exists.intro; refine ⟨fun w1 hS1 => ?_, ?_⟩; (focus ((obtain ⟨g0, g1, g2, g3, g4, g5⟩ := dgC (k0.below hS1 (by omega))); go_simp; with_reducible rfl)); simp only [Act.put, List.setIfInBounds_toArray, List.set_cons_zero, List.set_cons_succ]))
  refine TxtZL.call (f := 41) (args := #[.slice A l.length c]) (fun u => ∃ A' c', u = Value.slice A' l.length c') (fun u w' => OwnP w' W0.heap.size u l) (by rfl) (by rfl) ⟨_, none, 0, rfl⟩ (fun w1 hS1 hJ1 => by go_simp) (fun w1 hS1 hJ1 => ?_) ?_
  · refine (clonePs_any A l c w1 (hp0.below hS1) hA (by omega)).mono ?_
    rintro e w' ⟨A', c', rfl, ho, hb⟩
    exact ⟨_, rfl, hS1.trans (hb.mono hS1.size), ⟨A', c', rfl⟩, ownsRow_mono ho hS1.size⟩
  rintro v9 ⟨A1, c1, rfl⟩
  simp only [Act.put, List.setIfInBounds_toArray, List.set_cons_zero, List.set_cons_succ]
  repeat (first
    | (refine TxtZL.skip (by rfl) ?_; simp only [Act.put, List.setIfInBounds_toArray, List.set_cons_zero, List.set_cons_succ])
    | (refine TxtZL.take (by rfl) (by rfl) ?_; apply Exists.intro; refine ⟨fun w1 hS1 => ?_, ?_⟩; (focus ((obtain ⟨g0, g1, g2, g3, g4, g5⟩ := dgC (k0.below hS1 (by omega))); go_simp; with_reducible rfl)); simp only [Act.put, List.setIfInBounds_toArray, List.set_cons_zero, List.set_cons_succ])
    | (refine TxtZL.takeE' (by rfl) (by rfl) ?_; apply Exists.intro; refine ⟨fun w1 hS1 => ?_, ?_⟩; (focus ((obtain ⟨g0, g1, g2, g3, g4, g5⟩ := dgC (k0.below hS1 (by omega))); go_simp; with_reducible rfl)); simp only [Act.put, List.setIfInBounds_toArray, List.set_cons_zero, List.set_cons_succ]))
  refine TxtZL.call (f := 43) (args := #[.slice M ms.length cm]) (fun u => ∃ M1 cm1, u = Value.slice M1 ms.length cm1) (fun u w' => OwnP w' W0.heap.size (.slice A1 l.length c1) l ∧ OwnM w' W0.heap.size u ms) (by rfl) (by rfl) ⟨_, none, 0, rfl⟩ (fun w1 hS1 hJ1 => by go_simp) (fun w1 hS1 hJ1 => ?_) ?_
  · refine (cloneM_any M ms cm w1 (hr0.below hS1) hM (by omega)).mono ?_
    rintro e w' ⟨M1, cm1, rfl, ho, hb⟩
    exact ⟨_, rfl, hS1.trans (hb.mono hS1.size), ⟨M1, cm1, rfl⟩, ownsRow_below hJ1 hb, ho.mono hS1.size⟩
  rintro v17 ⟨M1, cm1, rfl⟩
  simp only [Act.put, List.setIfInBounds_toArray, List.set_cons_zero, List.set_cons_succ]
  repeat (first
    | (refine TxtZL.skip (by rfl) ?_; simp only [Act.put, List.setIfInBounds_toArray, List.set_cons_zero, List.set_cons_succ])
    | (refine TxtZL.take (by rfl) (by rfl) ?_; apply Exists.intro; refine ⟨fun w1 hS1 => ?_, ?_⟩; (focus (skip; go_simp; with_reducible rfl)); simp only [Act.put, List.setIfInBounds_toArray, List.set_cons_zero, List.set_cons_succ])
    | (refine TxtZL.takeE' (by rfl) (by rfl) ?_; apply Exists.intro; refine ⟨fun w1 hS1 => ?_, ?_⟩; (focus (skip; go_simp; with_reducible rfl)); simp only [Act.put, List.setIfInBounds_toArray, List.set_cons_zero, List.set_cons_succ]))
  refine TxtZL.last (fun w' => Blk w' (w.heap.size + 1) 66 #[.int .i64 (n : Int), .slice A1 l.length c1, .int .i64 root, .int .i64 l0, .int .i64 l1, .slice M1 ms.length cm1] ∧ OwnP w' W0.heap.size (.slice A1 l.length c1) l ∧ OwnM w' W0.heap.size (.slice M1 ms.length cm1) ms ∧ Below w.heap.size w w') (by rfl) (by rfl) (fun w1 hS1 hJ1 => ?_) ?_
  · have hk := k1.below hS1 (by omega)
    obtain ⟨g0, g1, g2, g3, g4, g5⟩ := dgC hk
    obtain ⟨f0, f1, f2, f3, f4, f5⟩ := dgF hk
    exact Eff.skip (w' := (((((w1.setCell ⟨w.heap.size + 1, 0, none⟩ (.int .i64 (n : Int))).setCell ⟨w.heap.size + 1, 1, none⟩ (.slice A1 l.length c1)).setCell ⟨w.heap.size + 1, 2, none⟩ (.int .i64 root)).setCell ⟨w.heap.size + 1, 3, none⟩ (.int .i64 l0)).setCell ⟨w.heap.size + 1, 4, none⟩ (.int .i64 l1)).setCell ⟨w.heap.size + 1, 5, none⟩ (.slice M1 ms.length cm1)) (by go_simp) ⟨set6 hk .., own_set6 hJ1.1 (by omega) .., own_set6 hJ1.2 (by omega) .., below_set6 (endB hb0 hS1) (by omega) ..⟩
  rintro v w2 ⟨hk, ho, hm, hb⟩
  obtain ⟨r0, r1, r2, r3, r4, r5⟩ := dgC hk
  have Ho := Lib.hid ho; have Hm := Lib.hid hm; have Hb := Lib.hid hb
  clear ho hm hb k0 k1 hk
  go_wp2_with fail
  refine bodyPost_ret (v := .agg #[.int .i64 (n : Int), .slice A1 l.length c1, .int .i64 root, .int .i64 l0, .int .i64 l1, .slice M1 ms.length cm1]) (by simp [results, Tryz.results20, go_sem, r0, r1, r2, r3, r4, r5]) rfl ?_
  exact ⟨A1, c1, M1, cm1, rfl, ownsRow_mono Ho.out hb0.size, Hm.out.mono hb0.size, Hb.out⟩
/-- a list of moves that a run may have made -/
structure PlayL (l0 l1 : Int) (l : List (Int × Int)) (root : Int) (ms : List Mv) : Prop where
  pos : 0 < ms.length
  head : mv ms 0 = (1, 1, root, 0)
  step : ∀ k, 0 < k → k < ms.length → turnF l0 l1 l (ms.take k) ≠ 0 ∧ MayB l (ms.take k) (mv ms k)
theorem take_one {ms : List Mv} (h : 0 < ms.length) : ms.take 1 = [mv ms 0] := by
  cases ms with
  | nil => simp at h
  | cons m r => rfl
theorem take_next {ms : List Mv} {k : Nat} (h : k < ms.length) : ms.take (k + 1) = ms.take k ++ [mv ms k] := by rw [List.take_succ_eq_append_getElem h, mv_at h]
theorem PlayL.ok {l0 l1 : Int} {l : List (Int × Int)} {root : Int} {ms : List Mv} (h : PlayL l0 l1 l root ms) : ∀ k, 0 < k → k ≤ ms.length → OkM (ms.take k)
  | 0, h0, _ => by omega
  | 1, _, _ => by rw [take_one h.pos, h.head]; exact clm_ok root
  | k + 2, _, hk => by
    rw [take_next (by omega)]
    obtain ⟨h1, h2⟩ := h.step (k + 1) (by omega) (by omega)
    exact (PlayL.ok h (k + 1) (by omega) (by omega)).snoc (turn_run h1).1 h2
theorem PlayL.len {l0 l1 : Int} {l : List (Int × Int)} {root : Int} {ms : List Mv} (h : PlayL l0 l1 l root ms) : ms.length ≤ 200 := by
  rcases Nat.lt_or_ge ms.length 2 with h2 | h2
  · omega
  · have := (turn_run (h.step (ms.length - 1) (by omega) (by omega)).1).2.1
    rw [List.length_take] at this; omega
theorem mv_take {ms : List Mv} {k i : Nat} (h : i < k) (hk : k ≤ ms.length) : mv (ms.take k) i = mv ms i := by
  rw [mv_at (by rw [List.length_take]; omega), mv_at (by omega), List.getElem_take]
theorem run_neqM (k f t u k' x y z : Int) (w : World) : (binOp .neq 89 (.agg #[.int .i64 k, .int .i64 f, .int .i64 t, .int .i64 u]) (.agg #[.int .i64 k', .int .i64 x, .int .i64 y, .int .i64 z])).run Tryz.prog w = .ok (.bool (!(k == k' && (f == x && (t == y && u == z))))) w := by
  have u3 := Tryz.underlying3
  have a3 := Tryz.isAgg3
  have z3 := Tryz.sizeOf3
  have hp : Tryz.prog.stoodInHeld 89 = false := by kernel_rfl
  rw [run_neq_struct, show (10000 : Nat) = 9999 + 1 from rfl, run_equalIn_agg w 9999 89 _ _ und_mv hp]
  simp only [Program.fieldsOf, Tryz.underlying89]
  go_simp
  by_cases h0 : k = k' <;> by_cases h1 : f = x <;> by_cases h2 : t = y <;> by_cases h3 : u = z <;> simp [h0, h1, h2, h3]
theorem run_eqlO (x y x' y' : Int) (w : World) : (binOp .eql 63 (.agg #[.int .i64 x, .int .i64 y]) (.agg #[.int .i64 x', .int .i64 y'])).run Tryz.prog w = .ok (.bool (x == x' && y == y')) w := by
  have u3 := Tryz.underlying3
  have a3 := Tryz.isAgg3
  have z3 := Tryz.sizeOf3
  have hp : Tryz.prog.stoodInHeld 63 = false := by kernel_rfl
  have hu : Tryz.prog.underlying 63 = some (.struct (Tryz.prog.fieldsOf 63)) := by kernel_rfl
  rw [run_eql_struct, show (10000 : Nat) = 9999 + 1 from rfl, run_equalIn_agg w 9999 63 _ _ hu hp]
  simp only [Program.fieldsOf, Tryz.underlying63]
  go_simp
  by_cases h0 : x = x' <;> by_cases h1 : y = y' <;> simp [h0, h1]
end Go.Proofs.YthkknlnfdckdfaaGreatDoor

/- Package referee: Replay, Judge. -/
namespace Go.Proofs.YthkknlnfdckdfaaGreatDoor
open Go.ChangeShapes Go.WideShapes Go.ChangeAt Go.RowKit

/-- the call returns the dialogue of a transcript -/
def RetRp (n : Nat) (l : List (Int × Int)) (root l0 l1 : Int) (ms : List Mv) (w : World) : Ending → World → Prop := fun e w' => ∃ A c M cm, e = .returned (.tuple #[.agg #[.int .i64 (n : Int), .slice A l.length c, .int .i64 root, .int .i64 l0, .int .i64 l1, .slice M ms.length cm], .int .i64 (ms.length : Int), .int .i64 0]) ∧ RP w' A l ∧ RM w' M ms ∧ Below w.heap.size w w'
theorem own_nil {w : World} {m : Nat} {A : Option Addr} {l : List (Int × Int)} {c : Nat} (h : OwnP w m (.slice A l.length c) l) : A = none → l = [] ∧ c = 0 := fun en => by
  obtain ⟨A', c', e', _, hn⟩ := OwnP.form2 h
  injection e' with e1 _ e2
  subst e1 e2
  exact hn en
theorem own_ge {w : World} {m : Nat} {A : Option Addr} {l : List (Int × Int)} {c : Nat} (h : OwnP w m (.slice A l.length c) l) : ∀ b o, A = some ⟨b, o, none⟩ → m ≤ b := fun b o e => by
  subst e
  exact (World.ownsRow.lt h b rfl).1
theorem own_rp {w : World} {m : Nat} {A : Option Addr} {l : List (Int × Int)} {c : Nat} (h : OwnP w m (.slice A l.length c) l) : RP w A l := by
  obtain ⟨A', c', e', hr, _⟩ := OwnP.form2 h
  injection e' with e1 _ _
  rw [e1]; exact hr
theorem own_rm {w : World} {m : Nat} {A : Option Addr} {ms : List Mv} {c : Nat} (h : OwnM w m (.slice A ms.length c) ms) : RM w A ms ∧ ∀ b o, A = some ⟨b, o, none⟩ → m ≤ b := by
  obtain ⟨A', c', e', hr, _, hg⟩ := h.form
  injection e' with e1 _ _
  rw [e1]; exact ⟨hr, hg⟩
/-- the dialogue of a replay, in its variable -/
structure RunQ (G q : Nat) (W : World) (n : Nat) (l : List (Int × Int)) (root l0 l1 : Int) (ms : List Mv) (A1 : Option Addr) (c1 : Nat) (M1 : Option Addr) (cm1 : Nat) (w : World) : Prop where
  blk : Blk w G 55 #[.int .i64 (n : Int), .slice A1 l.length c1, .int .i64 root, .int .i64 l0, .int .i64 l1, .slice M1 ms.length cm1]
  rp : RP w A1 l
  an : A1 = none → l = [] ∧ c1 = 0
  ap : ∀ b o, A1 = some ⟨b, o, none⟩ → b ≠ G ∧ b ≠ q
  rm : RM w M1 ms
  mp : ∀ b o, M1 = some ⟨b, o, none⟩ → b ≠ G ∧ b ≠ q
  near : Near G W.heap.size W w
theorem RunQ.below {G q : Nat} {W : World} {n : Nat} {l : List (Int × Int)} {root l0 l1 : Int} {ms : List Mv} {A1 : Option Addr} {c1 : Nat} {M1 : Option Addr} {cm1 : Nat} {w w' : World} (h : RunQ G q W n l root l0 l1 ms A1 c1 M1 cm1 w) (hb : Below w.heap.size w w') : RunQ G q W n l root l0 l1 ms A1 c1 M1 cm1 w' :=
  ⟨h.blk.below hb h.blk.lt, h.rp.below hb, h.an, h.ap, h.rm.below hb, h.mp, h.near.trans (Near.of_below (hb.mono h.near.size))⟩
set_option maxRecDepth 100000 in
set_option maxHeartbeats 16000000 in
theorem replay2_any (n : Nat) (A : Option Addr) (l : List (Int × Int)) (c : Nat) (root l0 l1 : Int) (M : Option Addr) (ms : List Mv) (cm : Nat) (w : World) (hp : RP w A l) (hA : A = none → l = [] ∧ c = 0) (hv : Vld n l) (hll : l.length ≤ 1600) (hr : RM w M ms) (hcap : ms.length ≤ cm) (hc2 : 1 < cm) (hP : PlayL l0 l1 l root ms) (h0 : 0 ≤ root) (h1 : root < n) (h2 : 1 ≤ l0) (h3 : l0 ≤ 200) (h4 : 0 ≤ l1) (h5 : l1 ≤ 200) :
    Calls Tryz.prog 47 #[.agg #[.int .i64 (n : Int), .slice A l.length c, .int .i64 root, .int .i64 l0, .int .i64 l1, .slice M ms.length cm]] w (RetRp n l root l0 l1 ms w) := by
  have hpos := hP.pos
  have hlen := hP.len
  have HP := Lib.hid hP; have HA := Lib.hid hA; have Hv := Lib.hid hv; have Hr := Lib.hid hr
  have hnl : ((ms.length : Int) == 0) = false := beq_eq_false_iff_ne.2 (by omega)
  have hl0 : (0 : Int) < (ms.length : Int) := by omega
  have heq0 : ∀ w, (binOp .neq 89 (.agg #[.int .i64 1, .int .i64 1, .int .i64 root, .int .i64 0]) (.agg #[.int .i64 1, .int .i64 1, .int .i64 root, .int .i64 0])).run Tryz.prog w = .ok (.bool false) w := fun w => by rw [run_neqM]; simp
  clear hP hA hv hr
  go_enter Tryz.func47, Tryz.ntmps47
  go_upto_region 1 with fail
  obtain ⟨W0, hW, k0, k1, hb0, hs0⟩ := boxed2A w 66 55 #[.int .i64 (n : Int), .slice A l.length c, .int .i64 root, .int .i64 l0, .int .i64 l1, .slice M ms.length cm] #[.int .i64 0, .slice none 0 0, .int .i64 0, .int .i64 0, .int .i64 0, .slice none 0 0]
  rw [hW]
  obtain ⟨z0, z1, z2, z3, z4, z5⟩ := dgC k0
  have hp0 := hp.below hb0
  clear hW hp
  go_wp2_with fail
  refine (pnew_any n A l c root l0 l1 W0 hp0 HA.out Hv.out h0 h1 h2 h3 h4 h5).mono ?_
  rintro e w1 ⟨A1, c1, M1, cm1, rfl, ho, hm, hb1⟩
  rw [clm_len]
  have z0 := (hb1.cell (lt_of_cell z0)).trans z0
  have z1 := (hb1.cell (lt_of_cell z1)).trans z1
  have z2 := (hb1.cell (lt_of_cell z2)).trans z2
  have z3 := (hb1.cell (lt_of_cell z3)).trans z3
  have z4 := (hb1.cell (lt_of_cell z4)).trans z4
  have z5 := (hb1.cell (lt_of_cell z5)).trans z5
  have hbb := hb0.trans (hb1.mono hb0.size)
  have k1 := k1.below hb1 (by omega)
  have hs1 := hb1.size
  go_upto_region 4 with fail
  obtain ⟨w2, hw2, k5, hb2, hs2⟩ := boxedA w1 55 #[.int .i64 (n : Int), .slice A1 l.length c1, .int .i64 root, .int .i64 l0, .int .i64 l1, .slice M1 1 cm1]
  rw [hw2]
  have z0 := (hb2.cell (lt_of_cell z0)).trans z0
  have z1 := (hb2.cell (lt_of_cell z1)).trans z1
  have z2 := (hb2.cell (lt_of_cell z2)).trans z2
  have z3 := (hb2.cell (lt_of_cell z3)).trans z3
  have z4 := (hb2.cell (lt_of_cell z4)).trans z4
  have z5 := (hb2.cell (lt_of_cell z5)).trans z5
  have hbb := hbb.trans (hb2.mono hbb.size)
  have k1 := k1.below hb2 (by omega)
  have hm1 := hm; have ho1 := ho
  have HG1p : ∀ (b : Nat), W0.heap.size ≤ b → b ≠ w.heap.size + 1 := fun b h => by omega
  have ho := ownsRow_below ho hb2
  have hm := hm.below hb2
  have hg5 : w1.heap.size < w2.heap.size := by omega
  have hgG : w.heap.size < w1.heap.size := by omega
  have hgK : w.heap.size + 1 < w1.heap.size := by omega
  have Hbb := Lib.hid hbb; have K1 := Lib.hid k1
  have hrm := Hr.out.below hbb
  clear hw2 hb0 hb1 hp0 k0 hs0 hs1 hs2 hbb k1
  have Hlm := Lib.hid (fun k hk => (World.ownsRow.lt hm1 k hk).2)
  have Hla := Lib.hid (fun k hk => (World.ownsRow.lt ho1 k hk).2)
  have HG1 := Lib.hid HG1p
  clear hm1 ho1 HG1p
  generalize hg : w1.heap.size = g5 at *
  -- the first move
  obtain ⟨b, o, rfl, e0, e1, e2, e3⟩ := hrm 0 hpos
  obtain ⟨b2, o2, rfl, f0, f1, f2, f3⟩ := (show RM w2 M1 (clm root) from by
    obtain ⟨A', c', e', hr', _, _⟩ := hm.form
    injection e' with e1 _ _
    rw [e1]; exact hr') 0 (by rw [clm_len]; omega)
  rw [HP.out.head] at e0 e1 e2 e3
  simp only [Nat.zero_mul, Nat.add_zero] at e0 e1 e2 e3 f0 f1 f2 f3
  rw [show mv (clm root) 0 = (1, 1, root, 0) from rfl] at f0 f1 f2 f3
  have y5 : w2.cell? ⟨g5, 5, none⟩ = some (.slice (some ⟨b2, o2, none⟩) 1 cm1) := k5.cell 5
  have K5 := Lib.hid k5; have Ho := Lib.hid ho; have Hm := Lib.hid hm
  clear k5 ho hm hrm
  go_quiet (fail)
  have hl1 : (1 : Int) ≤ (ms.length : Int) := by omega
  have hl2 : (ms.length : Int) ≤ (cm : Int) := by omega
  have hc3 : ¬ cm = 1 := by omega
  have hc4 : ¬ cm - 1 = 0 := by omega
  have hc5 : ¬ 1 = cm := by omega
  go_upto_region 6 with fail
  clear e0 e1 e2 e3 f0 f1 f2 f3 y5 heq0 hnl hl0
  go_cut [43, 44, 45] (fun s43 s44 s45 wx => ∃ ob cc, s43 = Value.slice (some ⟨b, ob, none⟩) (ms.length - 1) cc ∧ s44 = Value.int .i64 ((ms.length - 1 : Nat) : Int) ∧ s45 = Value.int .i64 0 ∧ (1 < ms.length → ob = o + 4) ∧ wx = w2.drewN nq)
  case first =>
    go_wp2_with fail
    all_goals
      go_meet
      first
        | exact ⟨_, _, rfl, rfl, rfl, fun _ => rfl, rfl⟩
        | exact ⟨_, _, rfl, rfl, rfl, fun h => by omega, rfl⟩
  obtain ⟨ob, cc, rfl, rfl, rfl, hob, hwc⟩ := hcut
  have Hbb3 := Lib.hid (show Below w.heap.size w wc by rw [hwc]; exact below_drewN Hbb.out nq)
  have K53 := Lib.hid (show Blk wc g5 55 #[.int .i64 (n : Int), .slice A1 l.length c1, .int .i64 root, .int .i64 l0, .int .i64 l1, .slice (some ⟨b2, o2, none⟩) 1 cm1] by rw [hwc]; exact K5.out)
  have hMp : b2 ≠ g5 ∧ b2 ≠ w.heap.size + 1 := by
    have h1 := (own_rm Hm.out).2 b2 o2 rfl
    have h2 := World.ownsRow.lt Hm.out b2 rfl
    have h3 := Hlm.out b2 rfl
    have h4 := HG1.out b2 ((own_rm Hm.out).2 b2 o2 rfl)
    exact ⟨by omega, h4⟩
  have hAp : ∀ b o, A1 = some ⟨b, o, none⟩ → b ≠ g5 ∧ b ≠ w.heap.size + 1 := fun b o e => by
    have h3 := Hla.out b (by rw [e]; rfl)
    have h4 := HG1.out b (own_ge Ho.out b o e)
    exact ⟨by omega, h4⟩
  have hQ0 : RunQ g5 (w.heap.size + 1) wc n l root l0 l1 (ms.take 1) A1 c1 (some ⟨b2, o2, none⟩) cm1 wc := by
    rw [take_one hpos, HP.out.head]
    exact ⟨K53.out, by rw [hwc]; exact own_rp Ho.out, own_nil Ho.out, hAp, by rw [hwc]; exact (own_rm Hm.out).1, fun b o e => by injection e with e; injection e with e _ _; rw [← e]; exact hMp, Near.refl _ _ _⟩
  have hrw : RM wc (some ⟨b, o, none⟩) ms := Hr.out.below Hbb3.out
  have hgc : g5 < wc.heap.size := K53.out.lt
  have y5 : wc.cell? ⟨w.heap.size, 5, none⟩ = some (.slice (some ⟨b, o, none⟩) ms.length cm) := by rw [hwc]; exact z5
  have K13 := Lib.hid (show Blk wc (w.heap.size + 1) 55 #[.int .i64 0, .slice none 0 0, .int .i64 0, .int .i64 0, .int .i64 0, .slice none 0 0] by rw [hwc]; exact K1.out)
  have hbne : b ≠ g5 := by
    have h1 : b < w.heap.size := by
      obtain ⟨b', o', e', h1, _⟩ := Hr.out 0 hpos
      injection e' with e'; injection e' with e1 _ _
      rw [e1]; exact lt_of_cell h1
    omega
  have Hwc := Lib.hid (show ∀ wr, Near g5 wc.heap.size wc wr → Below w.heap.size w wr from fun wr h => Hbb3.out.trans ((near_below h hgc).mono (by omega)))
  have Hrw := Lib.hid (show ∀ wr, Near g5 wc.heap.size wc wr → RM wr (some ⟨b, o, none⟩) ms from fun wr h => hrw.grown h.grown (fun b' o' e => by injection e with e; injection e with e _ _; rw [← e]; exact hbne))
  clear K53 Ho Hm K5 Hbb3 hwc hrw Hlm Hla hMp hAp z0 z1 z2 z3 z4 z5 K1
  go_wp2_with fail
  go_loopw [45] (fun t wr => ∃ (j : Nat) (A1 : Option Addr) (c1 : Nat) (M1 : Option Addr) (cm1 : Nat), j ≤ ms.length - 1 ∧ t = .int .i64 j ∧ RunQ g5 (w.heap.size + 1) wc n l root l0 l1 (ms.take (j + 1)) A1 c1 M1 cm1 wr) (fun t _ => ms.length - 1 - (intOf t).toNat)
  case atStart => exact ⟨0, A1, c1, _, cm1, Nat.zero_le _, rfl, hQ0⟩
  case round =>
    clear hQ0
    obtain ⟨j, A1, c1, M1, cm1, hj, rfl, hQ⟩ := hrel
    by_cases hlt : j < ms.length - 1
    case neg =>
      obtain rfl : j = ms.length - 1 := by omega
      have htk : ms.take (ms.length - 1 + 1) = ms := by rw [show ms.length - 1 + 1 = ms.length by omega, List.take_length]
      rw [htk] at hQ
      have HQ := Lib.hid hQ
      have y5w : wr.cell? ⟨w.heap.size, 5, none⟩ = some (.slice (some ⟨b, o, none⟩) ms.length cm) := (near_cellx hQ.near (lt_of_cell y5) (by dsimp only; omega)).trans y5
      obtain ⟨e0, e1, e2, e3, e4, e5⟩ := dgC hQ.blk
      have hgr : g5 < wr.heap.size := hQ.blk.lt
      have hkt : Blk wr (w.heap.size + 1) 55 #[.int .i64 0, .slice none 0 0, .int .i64 0, .int .i64 0, .int .i64 0, .slice none 0 0] := K13.out.grown hQ.near.grown (fun e => by injection e with e; omega)
      have hGr : w.heap.size + 1 < wr.heap.size := hkt.lt
      clear hQ htk
      go_upto_region 16 with fail
      refine wp_region_textB [4] (fun w' => Near (w.heap.size + 1) wr.heap.size wr w') (fun w' => Blk w' (w.heap.size + 1) 55 #[.int .i64 0, .slice none 0 0, .int .i64 0, .int .i64 0, .int .i64 0, .slice none 0 0]) (by kernel_rfl) (by kernel_rfl) (by kernel_rfl) (Near.of_below (Below.refl _ _).drew) (hkt.below (Below.refl _ _).drew hGr) ?_
      repeat (first
        | (refine TxtBL.skip (by rfl) ?_; simp only [Act.put, List.setIfInBounds_toArray, List.set_cons_zero, List.set_cons_succ])
        | (refine TxtBL.take (by rfl) (by rfl) ?_; apply Exists.intro; refine ⟨fun w1 hS1 => ?_, ?_⟩; (focus ((have g0 := (near_cellx hS1 (lt_of_cell e0) (by dsimp only; omega)).trans e0); (have g1 := (near_cellx hS1 (lt_of_cell e1) (by dsimp only; omega)).trans e1); (have g2 := (near_cellx hS1 (lt_of_cell e2) (by dsimp only; omega)).trans e2); (have g3 := (near_cellx hS1 (lt_of_cell e3) (by dsimp only; omega)).trans e3); (have g4 := (near_cellx hS1 (lt_of_cell e4) (by dsimp only; omega)).trans e4); (have g5 := (near_cellx hS1 (lt_of_cell e5) (by dsimp only; omega)).trans e5); (have y := (near_cellx hS1 (lt_of_cell y5w) (by dsimp only; omega)).trans y5w); go_simp; with_reducible rfl)); simp only [Act.put, List.setIfInBounds_toArray, List.set_cons_zero, List.set_cons_succ])
        | (refine TxtBL.takeE (by rfl) (by rfl) ?_; apply Exists.intro; refine ⟨fun w1 hS1 => ?_, ?_⟩; (focus ((have g0 := (near_cellx hS1 (lt_of_cell e0) (by dsimp only; omega)).trans e0); (have g1 := (near_cellx hS1 (lt_of_cell e1) (by dsimp only; omega)).trans e1); (have g2 := (near_cellx hS1 (lt_of_cell e2) (by dsimp only; omega)).trans e2); (have g3 := (near_cellx hS1 (lt_of_cell e3) (by dsimp only; omega)).trans e3); (have g4 := (near_cellx hS1 (lt_of_cell e4) (by dsimp only; omega)).trans e4); (have g5 := (near_cellx hS1 (lt_of_cell e5) (by dsimp only; omega)).trans e5); (have y := (near_cellx hS1 (lt_of_cell y5w) (by dsimp only; omega)).trans y5w); go_simp; with_reducible rfl)); simp only [Act.put, List.setIfInBounds_toArray, List.set_cons_zero, List.set_cons_succ]))
      refine TxtBL.eff (fun u => u = undef) (fun _ w' => Blk w' (w.heap.size + 1) 55 #[.int .i64 (n : Int), .slice A1 l.length c1, .int .i64 root, .int .i64 l0, .int .i64 l1, .slice M1 ms.length cm1]) (by rfl) (by rfl) ⟨_, rfl⟩ (fun w2 hS1 hJ1 => ?_) ?_
      · obtain ⟨q0, q1, q2, q3, q4, q5⟩ := dgC hJ1
        obtain ⟨f0, f1, f2, f3, f4, f5⟩ := dgF hJ1
        exact Eff.skip (w' := (((((w2.setCell ⟨w.heap.size + 1, 0, none⟩ (.int .i64 (n : Int))).setCell ⟨w.heap.size + 1, 1, none⟩ (.slice A1 l.length c1)).setCell ⟨w.heap.size + 1, 2, none⟩ (.int .i64 root)).setCell ⟨w.heap.size + 1, 3, none⟩ (.int .i64 l0)).setCell ⟨w.heap.size + 1, 4, none⟩ (.int .i64 l1)).setCell ⟨w.heap.size + 1, 5, none⟩ (.slice M1 ms.length cm1)) (by go_simp) ⟨near_set6 hS1 .., rfl, set6 hJ1 ..⟩
      rintro v rfl
      simp only [Act.put]
      repeat (first
        | (refine TxtBL.skip (by rfl) ?_; simp only [Act.put, List.setIfInBounds_toArray, List.set_cons_zero, List.set_cons_succ])
        | (refine TxtBL.take (by rfl) (by rfl) ?_; apply Exists.intro; refine ⟨fun w1 hS1 => ?_, ?_⟩; (focus (skip; go_simp; with_reducible rfl)); simp only [Act.put, List.setIfInBounds_toArray, List.set_cons_zero, List.set_cons_succ])
        | (refine TxtBL.takeE (by rfl) (by rfl) ?_; apply Exists.intro; refine ⟨fun w1 hS1 => ?_, ?_⟩; (focus (skip; go_simp; with_reducible rfl)); simp only [Act.put, List.setIfInBounds_toArray, List.set_cons_zero, List.set_cons_succ]))
      refine TxtBL.nil (fun w2 hS hJ => ?_)
      obtain ⟨r0, r1, r2, r3, r4, r5⟩ := dgC hJ
      have HS := Lib.hid hS
      clear hS hJ hkt
      go_wp2_with fail
      refine bodyPost_ret (v := .tuple #[.agg #[.int .i64 (n : Int), .slice A1 l.length c1, .int .i64 root, .int .i64 l0, .int .i64 l1, .slice M1 ms.length cm1], .int .i64 (ms.length : Int), .int .i64 0]) (by simp [results, Tryz.results47, go_sem, r0, r1, r2, r3, r4, r5]) rfl ?_
      exact ⟨A1, c1, M1, cm1, rfl, HQ.out.rp.grownQ HS.out.grown (fun b o e _ => (HQ.out.ap b o e).2), HQ.out.rm.grown HS.out.grown (fun b o e => (HQ.out.mp b o e).2), (Hwc.out wr HQ.out.near).trans ((near_below HS.out hGr).mono (by omega))⟩
    case pos =>
    have hj1 : j + 1 < ms.length := by omega
    have hlt' : (j : Int) < ((ms.length - 1 : Nat) : Int) := by omega
    have hjz : (0 : Int) ≤ (j : Int) := by omega
    obtain rfl : ob = o + 4 := hob (by omega)
    obtain ⟨hts, hmay⟩ := HP.out.step (j + 1) (by omega) hj1
    have hok := HP.out.ok (j + 1) (by omega) (by omega)
    have htn := take_next hj1
    have htl : (ms.take (j + 1)).length = j + 1 := by rw [List.length_take]; omega
    obtain ⟨e0, e1, e2, e3⟩ := (Hrw.out wr hQ.near).cells hj1
    rw [show o + (j + 1) * 4 = o + 4 + j * 4 by omega] at e0 e1 e2 e3
    have hsw := hQ.near.size
    generalize hmp : ms.take (j + 1) = mp at *
    have Hmp := Lib.hid hmp; clear hmp
    have Hmay := Lib.hid hmay; have Hok := Lib.hid hok; have Htn := Lib.hid htn; have Htl := Lib.hid htl; have Hts := Lib.hid hts
    clear hmay hok htn htl hts
    go_upto_region 9 with fail
    obtain ⟨wa, hwa, ka, hba, hsa⟩ := boxedA wr 89 #[.int .i64 (mv ms (j + 1)).1, .int .i64 (mv ms (j + 1)).2.1, .int .i64 (mv ms (j + 1)).2.2.1, .int .i64 (mv ms (j + 1)).2.2.2]
    rw [hwa]
    obtain ⟨u0, u1, u2, u3, _, _, _, _⟩ := mvC ka
    have hQa := hQ.below hba
    obtain ⟨d0, d1, d2, d3, d4, d5⟩ := dgC hQa.blk
    have hg8 := ka.lt
    clear hwa e0 e1 e2 e3 hQ hba ka
    go_wp2_with fail
    refine (apply_any n A1 l c1 root l0 l1 M1 mp cm1 (mv ms (j + 1)) wa hQa.rp hQa.an Hv.out.1 hQa.rm Hok.out (by rw [Htl.out]; omega) hll Hts.out Hmay.out).mono ?_
    rintro e w4 ⟨A4, c4, M4, cm4, rfl, ho4, hm4, hb4⟩
    have hQ4 := hQa.below hb4
    obtain ⟨hr4, hge4⟩ := own_rm hm4
    have hrp4 := own_rp ho4
    have u0 := (hb4.cell (lt_of_cell u0)).trans u0
    have u1 := (hb4.cell (lt_of_cell u1)).trans u1
    have u2 := (hb4.cell (lt_of_cell u2)).trans u2
    have u3 := (hb4.cell (lt_of_cell u3)).trans u3
    have hl2 : (mp ++ [mv ms (j + 1)]).length = j + 2 := by rw [List.length_append, Htl.out]; rfl
    rw [hl2]
    clear d0 d1 d2 d3 d4 d5
    go_upto_region 10 with fail
    obtain ⟨w6, hw6, k9, hb6, hs6⟩ := boxedA w4 55 #[.int .i64 (n : Int), .slice A4 l.length c4, .int .i64 root, .int .i64 l0, .int .i64 l1, .slice M4 (j + 2) cm4]
    rw [hw6]
    have hQ6 := hQ4.below hb6
    have u0 := (hb6.cell (lt_of_cell u0)).trans u0
    have u1 := (hb6.cell (lt_of_cell u1)).trans u1
    have u2 := (hb6.cell (lt_of_cell u2)).trans u2
    have u3 := (hb6.cell (lt_of_cell u3)).trans u3
    have hr6 := hr4.below hb6
    have hrp6 := hrp4.below hb6
    obtain ⟨b4, o4, hM4, f0, f1, f2, f3⟩ := hr6 (j + 1) (by rw [hl2]; omega)
    subst hM4
    rw [← Htn.out, mv_take (by omega) (by omega)] at f0 f1 f2 f3
    obtain ⟨x0, x1, x2, x3, x4, x5⟩ := dgC k9
    have hwi : IntKind.i64.wrap ((j : Int) + 1) = ((j + 1 : Nat) : Int) := by rw [IntKind.wrap_i64]; omega
    have hj2 : (0 : Int) ≤ ((j + 1 : Nat) : Int) := by omega
    have hj3 : ((j + 1 : Nat) : Int) < ((j + 2 : Nat) : Int) := by omega
    have heq : ∀ w, (binOp .neq 89 (.agg #[.int .i64 (mv ms (j + 1)).1, .int .i64 (mv ms (j + 1)).2.1, .int .i64 (mv ms (j + 1)).2.2.1, .int .i64 (mv ms (j + 1)).2.2.2]) (.agg #[.int .i64 (mv ms (j + 1)).1, .int .i64 (mv ms (j + 1)).2.1, .int .i64 (mv ms (j + 1)).2.2.1, .int .i64 (mv ms (j + 1)).2.2.2])).run Tryz.prog w = .ok (.bool false) w := fun w => by rw [run_neqM]; simp
    have HQ6 := Lib.hid hQ6; have Hr6 := Lib.hid hr6; have Hrp6 := Lib.hid hrp6
    have Hge := Lib.hid (show ∀ b o, (some ⟨b4, o4, none⟩ : Option Addr) = some ⟨b, o, none⟩ → b ≠ g5 ∧ b ≠ w.heap.size + 1 from fun b o e => by have := hge4 b o e; constructor <;> omega)
    have Hge2 := Lib.hid (show ∀ b o, A4 = some ⟨b, o, none⟩ → b ≠ g5 ∧ b ≠ w.heap.size + 1 from fun b o e => by have := own_ge ho4 b o e; constructor <;> omega)
    have Han := Lib.hid (own_nil ho4)
    clear hQ4 hQa hr4 hrp4 hge4 ho4 hm4 hb4 hb6 hw6 k9 hQ6 hr6 hrp6
    go_quiet (fail)
    clear f0 f1 f2 f3 u0 u1 u2 u3
    have hQd := HQ6.out.below (below_drewN (Below.refl _ _) nq)
    have hrd : RM (w6.drewN nq) (some ⟨b4, o4, none⟩) (mp ++ [mv ms (j + 1)]) := Hr6.out
    have hrpd : RP (w6.drewN nq) A4 l := Hrp6.out
    have y0 : (w6.drewN nq).cell? ⟨w4.heap.size, 0, none⟩ = _ := x0
    have y1 : (w6.drewN nq).cell? ⟨w4.heap.size, 1, none⟩ = _ := x1
    have y2 : (w6.drewN nq).cell? ⟨w4.heap.size, 2, none⟩ = _ := x2
    have y3 : (w6.drewN nq).cell? ⟨w4.heap.size, 3, none⟩ = _ := x3
    have y4 : (w6.drewN nq).cell? ⟨w4.heap.size, 4, none⟩ = _ := x4
    have y6 : (w6.drewN nq).cell? ⟨w4.heap.size, 5, none⟩ = _ := x5
    clear x0 x1 x2 x3 x4 x5 HQ6 Hr6 Hrp6
    generalize w6.drewN nq = w7 at *
    obtain ⟨d0, d1, d2, d3, d4, d5⟩ := dgC hQd.blk
    obtain ⟨p0, p1, p2, p3, p4, p5⟩ := dgF hQd.blk
    have hb7 := set6 hQd.blk (.int .i64 (n : Int)) (.slice A4 l.length c4) (.int .i64 root) (.int .i64 l0) (.int .i64 l1) (.slice (some ⟨b4, o4, none⟩) (j + 2) cm4)
    have hn7 := near_set6 hQd.near (.int .i64 (n : Int)) (.slice A4 l.length c4) (.int .i64 root) (.int .i64 l0) (.int .i64 l1) (.slice (some ⟨b4, o4, none⟩) (j + 2) cm4)
    have hgn := near_set6 (Near.refl g5 w7.heap.size w7) (.int .i64 (n : Int)) (.slice A4 l.length c4) (.int .i64 root) (.int .i64 l0) (.int .i64 l1) (.slice (some ⟨b4, o4, none⟩) (j + 2) cm4)
    have hrm7 := hrd.grown hgn.grown (fun b o e => (Hge.out b o e).1)
    have hrp7 := hrpd.grownQ hgn.grown (fun b o e _ => (Hge2.out b o e).1)
    have Hb7 := Lib.hid hb7; have Hn7 := Lib.hid hn7; have Hrm7 := Lib.hid hrm7; have Hrp7 := Lib.hid hrp7; have Hl2 := Lib.hid hl2
    clear hQd hrd hrpd hb7 hn7 hgn hrm7 hrp7 hl2
    go_wp2_with fail
    go_roundw
    case rel => exact ⟨j + 1, A4, c4, some ⟨b4, o4, none⟩, cm4, by omega, by go_num, by
      rw [Htn.out]
      exact ⟨by rw [Hl2.out]; exact Hb7.out, Hrp7.out, Han.out, Hge2.out, Hrm7.out, Hge.out, Hn7.out⟩⟩
    case measure => simp [intOf]; omega
set_option maxRecDepth 100000 in
set_option maxHeartbeats 16000000 in
theorem replay1_any (n : Nat) (A : Option Addr) (l : List (Int × Int)) (c : Nat) (root l0 l1 : Int) (M : Option Addr) (ms : List Mv) (w : World) (hp : RP w A l) (hA : A = none → l = [] ∧ c = 0) (hv : Vld n l) (_hll : l.length ≤ 1600) (hr : RM w M ms) (hcap : ms.length ≤ 1) (hP : PlayL l0 l1 l root ms) (h0 : 0 ≤ root) (h1 : root < n) (h2 : 1 ≤ l0) (h3 : l0 ≤ 200) (h4 : 0 ≤ l1) (h5 : l1 ≤ 200) :
    Calls Tryz.prog 47 #[.agg #[.int .i64 (n : Int), .slice A l.length c, .int .i64 root, .int .i64 l0, .int .i64 l1, .slice M ms.length 1]] w (RetRp n l root l0 l1 ms w) := by
  have hpos := hP.pos
  have hlen := hP.len
  have HP := Lib.hid hP; have HA := Lib.hid hA; have Hv := Lib.hid hv; have Hr := Lib.hid hr
  have hnl : ((ms.length : Int) == 0) = false := beq_eq_false_iff_ne.2 (by omega)
  have hl0 : (0 : Int) < (ms.length : Int) := by omega
  have heq0 : ∀ w, (binOp .neq 89 (.agg #[.int .i64 1, .int .i64 1, .int .i64 root, .int .i64 0]) (.agg #[.int .i64 1, .int .i64 1, .int .i64 root, .int .i64 0])).run Tryz.prog w = .ok (.bool false) w := fun w => by rw [run_neqM]; simp
  clear hP hA hv hr
  go_enter Tryz.func47, Tryz.ntmps47
  go_upto_region 1 with fail
  obtain ⟨W0, hW, k0, k1, hb0, hs0⟩ := boxed2A w 66 55 #[.int .i64 (n : Int), .slice A l.length c, .int .i64 root, .int .i64 l0, .int .i64 l1, .slice M ms.length 1] #[.int .i64 0, .slice none 0 0, .int .i64 0, .int .i64 0, .int .i64 0, .slice none 0 0]
  rw [hW]
  obtain ⟨z0, z1, z2, z3, z4, z5⟩ := dgC k0
  have hp0 := hp.below hb0
  clear hW hp
  go_wp2_with fail
  refine (pnew_any n A l c root l0 l1 W0 hp0 HA.out Hv.out h0 h1 h2 h3 h4 h5).mono ?_
  rintro e w1 ⟨A1, c1, M1, cm1, rfl, ho, hm, hb1⟩
  rw [clm_len]
  have z0 := (hb1.cell (lt_of_cell z0)).trans z0
  have z1 := (hb1.cell (lt_of_cell z1)).trans z1
  have z2 := (hb1.cell (lt_of_cell z2)).trans z2
  have z3 := (hb1.cell (lt_of_cell z3)).trans z3
  have z4 := (hb1.cell (lt_of_cell z4)).trans z4
  have z5 := (hb1.cell (lt_of_cell z5)).trans z5
  have hbb := hb0.trans (hb1.mono hb0.size)
  have k1 := k1.below hb1 (by omega)
  have hs1 := hb1.size
  go_upto_region 4 with fail
  obtain ⟨w2, hw2, k5, hb2, hs2⟩ := boxedA w1 55 #[.int .i64 (n : Int), .slice A1 l.length c1, .int .i64 root, .int .i64 l0, .int .i64 l1, .slice M1 1 cm1]
  rw [hw2]
  have z0 := (hb2.cell (lt_of_cell z0)).trans z0
  have z1 := (hb2.cell (lt_of_cell z1)).trans z1
  have z2 := (hb2.cell (lt_of_cell z2)).trans z2
  have z3 := (hb2.cell (lt_of_cell z3)).trans z3
  have z4 := (hb2.cell (lt_of_cell z4)).trans z4
  have z5 := (hb2.cell (lt_of_cell z5)).trans z5
  have hbb := hbb.trans (hb2.mono hbb.size)
  have k1 := k1.below hb2 (by omega)
  have hm1 := hm; have ho1 := ho
  have HG1p : ∀ (b : Nat), W0.heap.size ≤ b → b ≠ w.heap.size + 1 := fun b h => by omega
  have ho := ownsRow_below ho hb2
  have hm := hm.below hb2
  have hg5 : w1.heap.size < w2.heap.size := by omega
  have hgG : w.heap.size < w1.heap.size := by omega
  have hgK : w.heap.size + 1 < w1.heap.size := by omega
  have Hbb := Lib.hid hbb; have K1 := Lib.hid k1
  have hrm := Hr.out.below hbb
  clear hw2 hb0 hb1 hp0 k0 hs0 hs1 hs2 hbb k1
  have Hlm := Lib.hid (fun k hk => (World.ownsRow.lt hm1 k hk).2)
  have Hla := Lib.hid (fun k hk => (World.ownsRow.lt ho1 k hk).2)
  have HG1 := Lib.hid HG1p
  clear hm1 ho1 HG1p
  generalize hg : w1.heap.size = g5 at *
  -- the first move
  obtain ⟨b, o, rfl, e0, e1, e2, e3⟩ := hrm 0 hpos
  obtain ⟨b2, o2, rfl, f0, f1, f2, f3⟩ := (show RM w2 M1 (clm root) from by
    obtain ⟨A', c', e', hr', _, _⟩ := hm.form
    injection e' with e1 _ _
    rw [e1]; exact hr') 0 (by rw [clm_len]; omega)
  rw [HP.out.head] at e0 e1 e2 e3
  simp only [Nat.zero_mul, Nat.add_zero] at e0 e1 e2 e3 f0 f1 f2 f3
  rw [show mv (clm root) 0 = (1, 1, root, 0) from rfl] at f0 f1 f2 f3
  have y5 : w2.cell? ⟨g5, 5, none⟩ = some (.slice (some ⟨b2, o2, none⟩) 1 cm1) := k5.cell 5
  have K5 := Lib.hid k5; have Ho := Lib.hid ho; have Hm := Lib.hid hm
  clear k5 ho hm hrm
  go_quiet (fail)
  have hl1 : (1 : Int) ≤ (ms.length : Int) := by omega
  have hl2 : (ms.length : Int) ≤ (1 : Int) := by omega
  go_upto_region 6 with fail
  clear e0 e1 e2 e3 f0 f1 f2 f3 y5 heq0 hnl hl0
  go_cut [43, 44, 45] (fun s43 s44 s45 wx => ∃ ob cc, s43 = Value.slice (some ⟨b, ob, none⟩) (ms.length - 1) cc ∧ s44 = Value.int .i64 ((ms.length - 1 : Nat) : Int) ∧ s45 = Value.int .i64 0 ∧ (1 < ms.length → ob = o + 4) ∧ wx = w2.drewN nq)
  case first =>
    go_wp2_with fail
    all_goals
      go_meet
      have h0 : ms.length - 1 = 0 := by omega
      rw [h0]
      exact ⟨_, _, rfl, rfl, rfl, fun h => by omega, rfl⟩
  obtain ⟨ob, cc, rfl, rfl, rfl, hob, hwc⟩ := hcut
  have Hbb3 := Lib.hid (show Below w.heap.size w wc by rw [hwc]; exact below_drewN Hbb.out nq)
  have K53 := Lib.hid (show Blk wc g5 55 #[.int .i64 (n : Int), .slice A1 l.length c1, .int .i64 root, .int .i64 l0, .int .i64 l1, .slice (some ⟨b2, o2, none⟩) 1 cm1] by rw [hwc]; exact K5.out)
  have hMp : b2 ≠ g5 ∧ b2 ≠ w.heap.size + 1 := by
    have h1 := (own_rm Hm.out).2 b2 o2 rfl
    have h2 := World.ownsRow.lt Hm.out b2 rfl
    have h3 := Hlm.out b2 rfl
    have h4 := HG1.out b2 ((own_rm Hm.out).2 b2 o2 rfl)
    exact ⟨by omega, h4⟩
  have hAp : ∀ b o, A1 = some ⟨b, o, none⟩ → b ≠ g5 ∧ b ≠ w.heap.size + 1 := fun b o e => by
    have h3 := Hla.out b (by rw [e]; rfl)
    have h4 := HG1.out b (own_ge Ho.out b o e)
    exact ⟨by omega, h4⟩
  have hQ0 : RunQ g5 (w.heap.size + 1) wc n l root l0 l1 (ms.take 1) A1 c1 (some ⟨b2, o2, none⟩) cm1 wc := by
    rw [take_one hpos, HP.out.head]
    exact ⟨K53.out, by rw [hwc]; exact own_rp Ho.out, own_nil Ho.out, hAp, by rw [hwc]; exact (own_rm Hm.out).1, fun b o e => by injection e with e; injection e with e _ _; rw [← e]; exact hMp, Near.refl _ _ _⟩
  have hrw : RM wc (some ⟨b, o, none⟩) ms := Hr.out.below Hbb3.out
  have hgc : g5 < wc.heap.size := K53.out.lt
  have y5 : wc.cell? ⟨w.heap.size, 5, none⟩ = some (.slice (some ⟨b, o, none⟩) ms.length 1) := by rw [hwc]; exact z5
  have K13 := Lib.hid (show Blk wc (w.heap.size + 1) 55 #[.int .i64 0, .slice none 0 0, .int .i64 0, .int .i64 0, .int .i64 0, .slice none 0 0] by rw [hwc]; exact K1.out)
  have hbne : b ≠ g5 := by
    have h1 : b < w.heap.size := by
      obtain ⟨b', o', e', h1, _⟩ := Hr.out 0 hpos
      injection e' with e'; injection e' with e1 _ _
      rw [e1]; exact lt_of_cell h1
    omega
  have Hwc := Lib.hid (show ∀ wr, Near g5 wc.heap.size wc wr → Below w.heap.size w wr from fun wr h => Hbb3.out.trans ((near_below h hgc).mono (by omega)))
  have Hrw := Lib.hid (show ∀ wr, Near g5 wc.heap.size wc wr → RM wr (some ⟨b, o, none⟩) ms from fun wr h => hrw.grown h.grown (fun b' o' e => by injection e with e; injection e with e _ _; rw [← e]; exact hbne))
  clear K53 Ho Hm K5 Hbb3 hwc hrw Hlm Hla hMp hAp z0 z1 z2 z3 z4 z5 K1
  go_wp2_with fail
  go_loopw [45] (fun t wr => ∃ (j : Nat) (A1 : Option Addr) (c1 : Nat) (M1 : Option Addr) (cm1 : Nat), j ≤ ms.length - 1 ∧ t = .int .i64 j ∧ RunQ g5 (w.heap.size + 1) wc n l root l0 l1 (ms.take (j + 1)) A1 c1 M1 cm1 wr) (fun t _ => ms.length - 1 - (intOf t).toNat)
  case atStart => exact ⟨0, A1, c1, _, cm1, Nat.zero_le _, rfl, hQ0⟩
  case round =>
    clear hQ0
    obtain ⟨j, A1, c1, M1, cm1, hj, rfl, hQ⟩ := hrel
    by_cases hlt : j < ms.length - 1
    case neg =>
      obtain rfl : j = ms.length - 1 := by omega
      have htk : ms.take (ms.length - 1 + 1) = ms := by rw [show ms.length - 1 + 1 = ms.length by omega, List.take_length]
      rw [htk] at hQ
      have HQ := Lib.hid hQ
      have y5w : wr.cell? ⟨w.heap.size, 5, none⟩ = some (.slice (some ⟨b, o, none⟩) ms.length 1) := (near_cellx hQ.near (lt_of_cell y5) (by dsimp only; omega)).trans y5
      obtain ⟨e0, e1, e2, e3, e4, e5⟩ := dgC hQ.blk
      have hgr : g5 < wr.heap.size := hQ.blk.lt
      have hkt : Blk wr (w.heap.size + 1) 55 #[.int .i64 0, .slice none 0 0, .int .i64 0, .int .i64 0, .int .i64 0, .slice none 0 0] := K13.out.grown hQ.near.grown (fun e => by injection e with e; omega)
      have hGr : w.heap.size + 1 < wr.heap.size := hkt.lt
      clear hQ htk
      go_upto_region 16 with fail
      refine wp_region_textB [4] (fun w' => Near (w.heap.size + 1) wr.heap.size wr w') (fun w' => Blk w' (w.heap.size + 1) 55 #[.int .i64 0, .slice none 0 0, .int .i64 0, .int .i64 0, .int .i64 0, .slice none 0 0]) (by kernel_rfl) (by kernel_rfl) (by kernel_rfl) (Near.of_below (Below.refl _ _).drew) (hkt.below (Below.refl _ _).drew hGr) ?_
      repeat (first
        | (refine TxtBL.skip (by rfl) ?_; simp only [Act.put, List.setIfInBounds_toArray, List.set_cons_zero, List.set_cons_succ])
        | (refine TxtBL.take (by rfl) (by rfl) ?_; apply Exists.intro; refine ⟨fun w1 hS1 => ?_, ?_⟩; (focus ((have g0 := (near_cellx hS1 (lt_of_cell e0) (by dsimp only; omega)).trans e0); (have g1 := (near_cellx hS1 (lt_of_cell e1) (by dsimp only; omega)).trans e1); (have g2 := (near_cellx hS1 (lt_of_cell e2) (by dsimp only; omega)).trans e2); (have g3 := (near_cellx hS1 (lt_of_cell e3) (by dsimp only; omega)).trans e3); (have g4 := (near_cellx hS1 (lt_of_cell e4) (by dsimp only; omega)).trans e4); (have g5 := (near_cellx hS1 (lt_of_cell e5) (by dsimp only; omega)).trans e5); (have y := (near_cellx hS1 (lt_of_cell y5w) (by dsimp only; omega)).trans y5w); go_simp; with_reducible rfl)); simp only [Act.put, List.setIfInBounds_toArray, List.set_cons_zero, List.set_cons_succ])
        | (refine TxtBL.takeE (by rfl) (by rfl) ?_; apply Exists.intro; refine ⟨fun w1 hS1 => ?_, ?_⟩; (focus ((have g0 := (near_cellx hS1 (lt_of_cell e0) (by dsimp only; omega)).trans e0); (have g1 := (near_cellx hS1 (lt_of_cell e1) (by dsimp only; omega)).trans e1); (have g2 := (near_cellx hS1 (lt_of_cell e2) (by dsimp only; omega)).trans e2); (have g3 := (near_cellx hS1 (lt_of_cell e3) (by dsimp only; omega)).trans e3); (have g4 := (near_cellx hS1 (lt_of_cell e4) (by dsimp only; omega)).trans e4); (have g5 := (near_cellx hS1 (lt_of_cell e5) (by dsimp only; omega)).trans e5); (have y := (near_cellx hS1 (lt_of_cell y5w) (by dsimp only; omega)).trans y5w); go_simp; with_reducible rfl)); simp only [Act.put, List.setIfInBounds_toArray, List.set_cons_zero, List.set_cons_succ]))
      refine TxtBL.eff (fun u => u = undef) (fun _ w' => Blk w' (w.heap.size + 1) 55 #[.int .i64 (n : Int), .slice A1 l.length c1, .int .i64 root, .int .i64 l0, .int .i64 l1, .slice M1 ms.length cm1]) (by rfl) (by rfl) ⟨_, rfl⟩ (fun w2 hS1 hJ1 => ?_) ?_
      · obtain ⟨q0, q1, q2, q3, q4, q5⟩ := dgC hJ1
        obtain ⟨f0, f1, f2, f3, f4, f5⟩ := dgF hJ1
        exact Eff.skip (w' := (((((w2.setCell ⟨w.heap.size + 1, 0, none⟩ (.int .i64 (n : Int))).setCell ⟨w.heap.size + 1, 1, none⟩ (.slice A1 l.length c1)).setCell ⟨w.heap.size + 1, 2, none⟩ (.int .i64 root)).setCell ⟨w.heap.size + 1, 3, none⟩ (.int .i64 l0)).setCell ⟨w.heap.size + 1, 4, none⟩ (.int .i64 l1)).setCell ⟨w.heap.size + 1, 5, none⟩ (.slice M1 ms.length cm1)) (by go_simp) ⟨near_set6 hS1 .., rfl, set6 hJ1 ..⟩
      rintro v rfl
      simp only [Act.put]
      repeat (first
        | (refine TxtBL.skip (by rfl) ?_; simp only [Act.put, List.setIfInBounds_toArray, List.set_cons_zero, List.set_cons_succ])
        | (refine TxtBL.take (by rfl) (by rfl) ?_; apply Exists.intro; refine ⟨fun w1 hS1 => ?_, ?_⟩; (focus (skip; go_simp; with_reducible rfl)); simp only [Act.put, List.setIfInBounds_toArray, List.set_cons_zero, List.set_cons_succ])
        | (refine TxtBL.takeE (by rfl) (by rfl) ?_; apply Exists.intro; refine ⟨fun w1 hS1 => ?_, ?_⟩; (focus (skip; go_simp; with_reducible rfl)); simp only [Act.put, List.setIfInBounds_toArray, List.set_cons_zero, List.set_cons_succ]))
      refine TxtBL.nil (fun w2 hS hJ => ?_)
      obtain ⟨r0, r1, r2, r3, r4, r5⟩ := dgC hJ
      have HS := Lib.hid hS
      clear hS hJ hkt
      go_wp2_with fail
      refine bodyPost_ret (v := .tuple #[.agg #[.int .i64 (n : Int), .slice A1 l.length c1, .int .i64 root, .int .i64 l0, .int .i64 l1, .slice M1 ms.length cm1], .int .i64 (ms.length : Int), .int .i64 0]) (by simp [results, Tryz.results47, go_sem, r0, r1, r2, r3, r4, r5]) rfl ?_
      exact ⟨A1, c1, M1, cm1, rfl, HQ.out.rp.grownQ HS.out.grown (fun b o e _ => (HQ.out.ap b o e).2), HQ.out.rm.grown HS.out.grown (fun b o e => (HQ.out.mp b o e).2), (Hwc.out wr HQ.out.near).trans ((near_below HS.out hGr).mono (by omega))⟩
    case pos => exact absurd hlt (by omega)
theorem replay_any (n : Nat) (A : Option Addr) (l : List (Int × Int)) (c : Nat) (root l0 l1 : Int) (M : Option Addr) (ms : List Mv) (cm : Nat) (w : World) (hp : RP w A l) (hA : A = none → l = [] ∧ c = 0) (hv : Vld n l) (hll : l.length ≤ 1600) (hr : RM w M ms) (hcap : ms.length ≤ cm) (hP : PlayL l0 l1 l root ms) (h0 : 0 ≤ root) (h1 : root < n) (h2 : 1 ≤ l0) (h3 : l0 ≤ 200) (h4 : 0 ≤ l1) (h5 : l1 ≤ 200) :
    Calls Tryz.prog 47 #[.agg #[.int .i64 (n : Int), .slice A l.length c, .int .i64 root, .int .i64 l0, .int .i64 l1, .slice M ms.length cm]] w (RetRp n l root l0 l1 ms w) := by
  have := hP.pos
  rcases Nat.lt_or_ge 1 cm with h | h
  · exact replay2_any n A l c root l0 l1 M ms cm w hp hA hv hll hr hcap h hP h0 h1 h2 h3 h4 h5
  · obtain rfl : cm = 1 := by omega
    exact replay1_any n A l c root l0 l1 M ms w hp hA hv hll hr hcap hP h0 h1 h2 h3 h4 h5
/-- the call returns the outcome of a transcript -/
def RetJu (o : Int × Int) (w : World) : Ending → World → Prop := fun e w' => e = .returned (.tuple #[.agg #[.int .i64 o.1, .int .i64 o.2], .int .i64 0]) ∧ Below w.heap.size w w'
set_option maxRecDepth 100000 in
set_option maxHeartbeats 4000000 in
theorem judge_any (n : Nat) (A : Option Addr) (l : List (Int × Int)) (c : Nat) (root l0 l1 : Int) (M : Option Addr) (ms : List Mv) (cm : Nat) (w : World) (hp : RP w A l) (hA : A = none → l = [] ∧ c = 0) (hv : Vld n l) (hll : l.length ≤ 1600) (hr : RM w M ms) (hcap : ms.length ≤ cm) (hP : PlayL l0 l1 l root ms) (h0 : 0 ≤ root) (h1 : root < n) (h2 : 1 ≤ l0) (h3 : l0 ≤ 200) (h4 : 0 ≤ l1) (h5 : l1 ≤ 200) :
    Calls Tryz.prog 19 #[.agg #[.int .i64 (n : Int), .slice A l.length c, .int .i64 root, .int .i64 l0, .int .i64 l1, .slice M ms.length cm]] w (RetJu (endF l0 l1 l ms) w) := by
  have hpos := hP.pos
  have hlen := hP.len
  have hok := hP.ok ms.length hpos (Nat.le_refl _)
  rw [List.take_length] at hok
  have HP := Lib.hid hP; have HA := Lib.hid hA; have Hv := Lib.hid hv; have Hok := Lib.hid hok
  clear hP hA hv hok
  go_enter Tryz.func19, Tryz.ntmps19
  go_upto_region 1 with fail
  obtain ⟨W0, hW, k0, k1, hb0, hs0⟩ := boxed2A w 66 63 #[.int .i64 (n : Int), .slice A l.length c, .int .i64 root, .int .i64 l0, .int .i64 l1, .slice M ms.length cm] #[.int .i64 0, .int .i64 0]
  rw [hW]
  obtain ⟨z0, z1, z2, z3, z4, z5⟩ := dgC k0
  have hp0 := hp.below hb0; have hr0 := hr.below hb0
  clear hW hp hr k0
  go_wp2_with fail
  refine (replay_any n A l c root l0 l1 M ms cm W0 hp0 HA.out Hv.out hll hr0 hcap HP.out h0 h1 h2 h3 h4 h5).mono ?_
  rintro e w1 ⟨A1, c1, M1, cm1, rfl, hrp1, hrm1, hb1⟩
  have k1 := k1.below hb1 (by omega)
  have hbb := hb0.trans (hb1.mono hb0.size)
  have hs1 := hb1.size
  clear z0 z1 z2 z3 z4 z5 hp0 hr0 hb0 hb1
  go_upto_region 2 with fail
  obtain ⟨w2, hw2, k4, hb2, hs2⟩ := boxedA w1 55 #[.int .i64 (n : Int), .slice A1 l.length c1, .int .i64 root, .int .i64 l0, .int .i64 l1, .slice M1 ms.length cm1]
  rw [hw2]
  obtain ⟨d0, d1, d2, d3, d4, d5⟩ := dgC k4
  have hrp2 := hrp1.below hb2; have hrm2 := hrm1.below hb2
  have k1 := k1.below hb2 (by omega)
  have hbb := hbb.trans (hb2.mono hbb.size)
  clear hw2 hrp1 hrm1 hb2 k4
  go_wp2_with fail
  refine (End_any n A1 l c1 root l0 l1 M1 ms cm1 w2 hrp2 hrm2 Hok.out (by omega) hll).mono ?_
  rintro e w3 ⟨rfl, hb3⟩
  have k1 := k1.below hb3 k1.lt
  obtain ⟨q0, q1, f0, f1⟩ := k1.two
  have K1 := Lib.hid k1; have Hb := Lib.hid (hbb.trans (hb3.mono hbb.size))
  clear k1 hbb hb3 hrp2 hrm2 d0 d1 d2 d3 d4 d5
  go_wp2_with fail
  have hk2 := set2 K1.out (.int .i64 (endF l0 l1 l ms).1) (.int .i64 (endF l0 l1 l ms).2)
  obtain ⟨r0, r1, _, _⟩ := hk2.two
  refine bodyPost_ret (v := .tuple #[.agg #[.int .i64 (endF l0 l1 l ms).1, .int .i64 (endF l0 l1 l ms).2], .int .i64 0]) (by simp [results, Tryz.results19, go_sem, r0, r1]) rfl ?_
  exact ⟨rfl, below_set2 Hb.out (by omega) _ _⟩
end Go.Proofs.YthkknlnfdckdfaaGreatDoor
