/- law14: the walk of SearchParts. -/
import Derived.Test.YtajocnhebfpjaaaDoorAwN
import Derived.Test.YtajocnhebfpjaaaDoorSpo
import Derived.Test.YtajocnhebfpjaaaDoorPl14y
namespace Go.Proofs.YtajocnhebfpjaaaDoor
open Go.ChangeShapes Go.WideShapes Go.ChangeAt Go.RowKit

theorem any_stepP {α : Type} (p : α → Bool) (L : List α) {k : Nat} (h : k < L.length) : (L.take (k + 1)).any p = ((L.take k).any p || p L[k]) := by
  rw [List.take_succ_eq_append_getElem h, List.any_append]; simp
theorem own_none {w : World} {b : Nat} {A : Option Addr} {l : List Int} {c : Nat} (h : OwnI w b (.slice A l.length c) l) : A = none → l = [] ∧ c = 0 := fun e => by
  subst e
  obtain ⟨A9, c9, e9, _, h9⟩ := h.form2
  injection e9 with e1 e2 e3
  subst e1 e3
  exact h9 rfl
theorem mul_facts2 {a b : Nat} (ha : a ≤ 200) (hb : b ≤ 200) : (0 : Int) ≤ (a : Int) * (b : Int) ∧ (a : Int) * (b : Int) ≤ 40000 := by
  have := Nat.mul_le_mul ha hb
  rw [← Int.natCast_mul]
  omega
theorem mul_facts {a b : Nat} (ha : a ≤ 200) (hb : b ≤ 200) (hc : 200 < a * b) : (0 : Int) ≤ (a : Int) * (b : Int) ∧ (a : Int) * (b : Int) ≤ 40000 ∧ (200 : Int) < (a : Int) * (b : Int) := by
  have := Nat.mul_le_mul ha hb
  rw [← Int.natCast_mul]
  omega
/-- what SearchParts uses of the answers on two graphs and on both side by side -/
structure PartX (n m : Nat) (C1 C2 C3 N1 N2 N3 : List (List Int) × Int) : Prop where
  lim : (C1.2 = 2 ∧ C3.2 = 2) ∨ (C1.2 = 0 ∧ C2.2 = 2 ∧ C3.2 = 2) ∨ (C1.2 = 0 ∧ C2.2 = 0 ∧ C3.2 = 2 ∧ C1.1.length ≤ 200 ∧ C2.1.length ≤ 200 ∧ 200 < C1.1.length * C2.1.length) ∨ (C1.2 = 0 ∧ C2.2 = 0 ∧ C3.2 = 0 ∧ C1.1.length ≤ 200 ∧ C2.1.length ≤ 200 ∧ C3.1 = pairsL (· ++ ·) C1.1 C2.1 ∧ C1.1.length * C2.1.length ≤ 200)
  nav0 : N1.2 = 0 ∧ N2.2 = 0 ∧ N3.2 = 0
  navl : N1.1.length ≤ 200 ∧ N2.1.length ≤ 200
  nav3 : N3.1.length = N1.1.length * N2.1.length
  split : ∀ i (h : i < N3.1.length), leftL n N3.1[i] ∈ N1.1 ∧ rightL n N3.1[i] ∈ N2.1 ∧ N3.1[i].length ≤ 100 ∧ ∀ q ∈ N3.1[i], 0 ≤ q ∧ q ≤ 100
  nav1 : ∀ x ∈ N1.1, x.length ≤ 100
  nav2 : ∀ x ∈ N2.1, x.length ≤ 100
  len1 : ∀ x ∈ C1.1, x.length ≤ 100
  len2 : ∀ x ∈ C2.1, x.length ≤ 100
theorem partX {n m : Nat} {l k : List (Int × Int)} (hv : Vld n l) (hw : Vld m k) (hnm : n + m ≤ 9) : PartX n m (compR n l) (compR m k) (compR ((n : Int) + (m : Int)) (twoL n l k)) (navR n l) (navR m k) (navR ((n : Int) + (m : Int)) (twoL n l k)) := by
  have hT := two_vld hv hw (by omega)
  have hc := two_comp hv.1 hw.1 hT.1
  have hp : (compL (n + m) (twoL n l k)).length = (compL n l).length * (compL m k).length := by rw [hc, pairsL_length]
  have h1 := comp_some hv.1; have h2 := comp_some hw.1
  rw [show (n : Int) + (m : Int) = ((n + m : Nat) : Int) by omega]
  have f1 := nav_few (n := n) (l := l) (by omega); have f2 := nav_few (n := m) (l := k) (by omega); have f3 := nav_few (n := n + m) (l := twoL n l k) hnm
  rw [compR_ok hv.valE, compR_ok hw.valE, compR_ok hT.valE, hp, navR_ok hv.valE, navR_ok hw.valE, navR_ok hT.valE, if_neg (show ¬ 200 < (navL n l).length by omega), if_neg (show ¬ 200 < (navL m k).length by omega), if_neg (show ¬ 200 < (navL (n + m) (twoL n l k)).length by omega)]
  have hle : ∀ a b : Nat, 0 < b → 200 < a → 200 < a * b := fun a b hb ha => Nat.lt_of_lt_of_le ha (Nat.le_mul_of_pos_right _ hb)
  refine ⟨?_, ⟨rfl, rfl, rfl⟩, ⟨by simp only [List.length_map]; exact f1, by simp only [List.length_map]; exact f2⟩, by simp only [List.length_map]; rw [two_navL hv.1 hw.1, pairsL_length], fun i h => nav_parts hv.1 hw.1 (by omega) (List.getElem_mem h), fun x hx => nav_small (by omega) hx, fun x hx => nav_small (by omega) hx, ?_, ?_⟩
  · by_cases ha : 200 < (compL n l).length
    · rw [if_pos ha, if_pos (hle _ _ h2 ha)]; exact .inl ⟨rfl, rfl⟩
    · rw [if_neg ha]
      by_cases hb : 200 < (compL m k).length
      · rw [if_pos hb, if_pos (by rw [Nat.mul_comm]; exact hle _ _ h1 hb)]; exact .inr (.inl ⟨rfl, rfl, rfl⟩)
      · rw [if_neg hb]
        by_cases hab : 200 < (compL n l).length * (compL m k).length
        · rw [if_pos hab]; exact .inr (.inr (.inl ⟨rfl, rfl, rfl, by simp only; omega, by simp only; omega, hab⟩))
        · rw [if_neg hab]; exact .inr (.inr (.inr ⟨rfl, rfl, rfl, by simp only; omega, by simp only; omega, hc, by simp only; omega⟩))
  · split
    · exact fun x hx => by cases hx
    · exact fun x hx => by have := comp_len hx; omega
  · split
    · exact fun x hx => by cases hx
    · exact fun x hx => by have := comp_len hx; omega

set_option maxRecDepth 100000 in
set_option maxHeartbeats 16000000 in
theorem parts_law_any (A : Option Addr) (arg : List Int) (c : Nat) (w : World)
    (hlc : arg.length ≤ c) (hc : c ≤ 9223372036854775807) (hr : RI w A arg) (hx : ∀ x ∈ arg, -9223372036854775808 ≤ x ∧ x ≤ 9223372036854775807) (hT : Tab w) :
    Calls Tryd.prog 4 #[.slice A arg.length c] w (RetB (.bool true) w) := by
  go_enter Tryd.func4, Tryd.ntmps4
  go_wp2_with fail
  refine (new_any A arg c w hlc hc hr hx).mono ?_
  rintro e w1 ⟨p, rfl, hp, hs1, hb1⟩
  have hp1 := hs1.lt
  clear hr hx
  go_wp2_with fail
  refine (graph2_any p 5 w1 hs1 (by omega)).mono ?_
  rintro e w2 ⟨n, l, AL, cl, rfl, hN, hv, hrp, hloc, hs2, hg2, hAn⟩
  have hb2 : Below w.heap.size w w2 := hb1.trans (below_of_grownBy hg2 hp hb1.size)
  clear hs1 hb1 hg2
  go_wp2_with fail
  refine (graph2_any p 4 w2 hs2 (by omega)).mono ?_
  rintro e w3 ⟨m, k, AK, ck, rfl, hM, hvk, hrk, hlok, hs3, hg3, hAk⟩
  have hrp3 : RP w3 AL l := hrp.grown hg3 fun b o h => by have := hloc b o h; omega
  have hb3 : Below w.heap.size w w3 := hb2.trans (below_of_grownBy hg3 hp hb2.size)
  clear hs2 hb2 hg3 hrp hs3
  go_upto_region 3 with fail
  obtain ⟨W0, hW, k0, k1, hb0, hlt0⟩ := boxed2 w3 24 24 (.int .i64 n) (.slice AL l.length cl) (.int .i64 m) (.slice AK k.length ck)
  rw [hW]
  have hr0 := hrp3.below hb0
  have hk0 := hrk.below hb0
  have hB0 := endB hb3 hb0
  have hnm : (n : Int) + (m : Int) ≤ 9 := by omega
  have hnm0 : (0 : Int) ≤ (n : Int) + (m : Int) := by omega
  have hwr : IntKind.i64.wrap ((n : Int) + (m : Int)) = (n : Int) + (m : Int) := by rw [IntKind.wrap_i64]; omega
  have hlen := hv.1.2.1
  obtain ⟨c0, c1, _, _⟩ := k0.two
  obtain ⟨d0, d1, _, _⟩ := k1.two
  clear hW hrp3 hrk
  go_cut [6] (fun s6 wx => ∃ g5 v, s6 = .pointer (some ⟨g5, 0, none⟩) ∧ Blk wx g5 24 #[.int .i64 ((n : Int) + (m : Int)), v] ∧ OwnP wx W0.heap.size v l ∧ W0.heap.size ≤ g5 ∧ Below W0.heap.size W0 wx)
  case first =>
    have hstore : ∀ (w1 : World) (g5 : Nat) (v : Value), OwnP w1 W0.heap.size v l → Blk w1 g5 24 #[.int .i64 0, .slice none 0 0] → W0.heap.size ≤ g5 → Below W0.heap.size W0 w1 →
        Blk ((w1.setCell ⟨g5, 0, none⟩ (.int .i64 ((n : Int) + (m : Int)))).setCell ⟨g5, 1, none⟩ v) g5 24 #[.int .i64 ((n : Int) + (m : Int)), v] ∧ OwnP ((w1.setCell ⟨g5, 0, none⟩ (.int .i64 ((n : Int) + (m : Int)))).setCell ⟨g5, 1, none⟩ v) W0.heap.size v l ∧ Below W0.heap.size W0 ((w1.setCell ⟨g5, 0, none⟩ (.int .i64 ((n : Int) + (m : Int)))).setCell ⟨g5, 1, none⟩ v) := fun w1 g5 v ho hk hg hb => by
      have hne := ho.apartG hk
      refine ⟨(hk.set_ 0 _).set_ 1 _, ?_, (hb.setCell (p := ⟨g5, 0, none⟩) hg _).setCell (p := ⟨g5, 1, none⟩) hg _⟩
      exact World.ownsRow.kept (World.ownsRow.kept ho (grownBy_setCell w1 g5 0 _) (.inr fun e => hne e.symm)) (grownBy_setCell _ g5 1 _) (.inr fun e => hne e.symm)
    refine wp_region_tree [5, 8, 10, 11] (fun w' => Below W0.heap.size W0 w') (fun _ => True) 12 [0, 1, 2, 3, 4, 5, 6, 7, 8, 9, 10, 11] (by rfl) (by decide) (by kernel_rfl) (by kernel_rfl) (Below.refl _ _).drew trivial ?_
    refine TxtT.pure 0 (by rfl) (by rw [List.getElem?_toArray]; rfl) (by rfl) (by kernel_rfl) (by rfl) ?_; apply Exists.intro; refine ⟨fun w1 hS1 => ?_, ?_⟩; (focus (skip; go_simp; with_reducible rfl))
    rw [show List.erase [0, 1, 2, 3, 4, 5, 6, 7, 8, 9, 10, 11] 0 = [1, 2, 3, 4, 5, 6, 7, 8, 9, 10, 11] from rfl]; simp only [Act.put, List.setIfInBounds_toArray, List.set_cons_zero, List.set_cons_succ]
    refine TxtT.pure 1 (by rfl) (by rw [List.getElem?_toArray]; rfl) (by rfl) (by kernel_rfl) (by rfl) ?_; apply Exists.intro; refine ⟨fun w1 hS1 => ?_, ?_⟩; (focus ((have g0 := (hS1.cell (lt_of_cell c0)).trans c0); go_simp; with_reducible rfl))
    rw [show List.erase [1, 2, 3, 4, 5, 6, 7, 8, 9, 10, 11] 1 = [2, 3, 4, 5, 6, 7, 8, 9, 10, 11] from rfl]; simp only [Act.put, List.setIfInBounds_toArray, List.set_cons_zero, List.set_cons_succ]
    refine TxtT.pure 2 (by rfl) (by rw [List.getElem?_toArray]; rfl) (by rfl) (by kernel_rfl) (by rfl) ?_; apply Exists.intro; refine ⟨fun w1 hS1 => ?_, ?_⟩; (focus (skip; go_simp; with_reducible rfl))
    rw [show List.erase [2, 3, 4, 5, 6, 7, 8, 9, 10, 11] 2 = [3, 4, 5, 6, 7, 8, 9, 10, 11] from rfl]; simp only [Act.put, List.setIfInBounds_toArray, List.set_cons_zero, List.set_cons_succ]
    refine TxtT.pure 3 (by rfl) (by rw [List.getElem?_toArray]; rfl) (by rfl) (by kernel_rfl) (by rfl) ?_; apply Exists.intro; refine ⟨fun w1 hS1 => ?_, ?_⟩; (focus ((have g0 := (hS1.cell (lt_of_cell d0)).trans d0); go_simp; with_reducible rfl))
    rw [show List.erase [3, 4, 5, 6, 7, 8, 9, 10, 11] 3 = [4, 5, 6, 7, 8, 9, 10, 11] from rfl]; simp only [Act.put, List.setIfInBounds_toArray, List.set_cons_zero, List.set_cons_succ]
    refine TxtT.pure 4 (by rfl) (by rw [List.getElem?_toArray]; rfl) (by rfl) (by kernel_rfl) (by rfl) ?_; apply Exists.intro; refine ⟨fun w1 hS1 => ?_, ?_⟩; (focus (skip; go_simp; with_reducible rfl))
    rw [show List.erase [4, 5, 6, 7, 8, 9, 10, 11] 4 = [5, 6, 7, 8, 9, 10, 11] from rfl]; simp only [Act.put, List.setIfInBounds_toArray, List.set_cons_zero, List.set_cons_succ]
    refine TxtT.pure 6 (by rfl) (by rw [List.getElem?_toArray]; rfl) (by rfl) (by kernel_rfl) (by rfl) ?_; apply Exists.intro; refine ⟨fun w1 hS1 => ?_, ?_⟩; (focus (skip; go_simp; with_reducible rfl))
    rw [show List.erase [5, 6, 7, 8, 9, 10, 11] 6 = [5, 7, 8, 9, 10, 11] from rfl]; simp only [Act.put, List.setIfInBounds_toArray, List.set_cons_zero, List.set_cons_succ]
    refine TxtT.pure 7 (by rfl) (by rw [List.getElem?_toArray]; rfl) (by rfl) (by kernel_rfl) (by rfl) ?_; apply Exists.intro; refine ⟨fun w1 hS1 => ?_, ?_⟩; (focus ((have g1 := (hS1.cell (lt_of_cell c1)).trans c1); go_simp; with_reducible rfl))
    rw [show List.erase [5, 7, 8, 9, 10, 11] 7 = [5, 8, 9, 10, 11] from rfl]; simp only [Act.put, List.setIfInBounds_toArray, List.set_cons_zero, List.set_cons_succ]
    refine TxtT.two 5 10 (by kernel_rfl) (by rw [List.getElem?_toArray]; rfl) (by rw [List.getElem?_toArray]; rfl) (by rfl) (by rfl) (by rfl) (by rfl) (fun v => ∃ g, v = Value.slice (some ⟨g, 0, none⟩) 0 0) (fun v w' => OwnP w' W0.heap.size v []) (fun v => ∃ g, v = Value.pointer (some ⟨g, 0, none⟩)) (fun v w' => ∃ g, v = Value.pointer (some ⟨g, 0, none⟩) ∧ Blk w' g 24 #[.int .i64 0, .slice none 0 0] ∧ W0.heap.size ≤ g) (fun w1 hS1 hJ1 => ?_) (fun w1 hS1 hJ1 => ?_) ?_ ?_
    · exact Eff.value (w' := w1.alloc (.cells #[] 39)) (v := .slice (some ⟨w1.heap.size, 0, none⟩) 0 0) (by go_simp) ⟨hS1.trans ((newB _ _).mono hS1.size), ⟨_, rfl⟩, ownsRow_mono (ownP_empty w1) hS1.size⟩
    · exact Eff.value (w' := w1.alloc (.cells #[.int .i64 0, .slice none 0 0] 24)) (v := .pointer (some ⟨w1.heap.size, 0, none⟩)) (by go_simp) ⟨hS1.trans ((newB _ _).mono hS1.size), ⟨_, rfl⟩, _, rfl, Blk.new _ _ _, hS1.size⟩
    · rintro v ⟨g9, rfl⟩
      rw [show List.erase [5, 8, 9, 10, 11] 5 = [8, 9, 10, 11] from rfl]; simp only [Act.put, List.setIfInBounds_toArray, List.set_cons_zero, List.set_cons_succ]
      refine TxtT.two 8 10 (by kernel_rfl) (by rw [List.getElem?_toArray]; rfl) (by rw [List.getElem?_toArray]; rfl) (by rfl) (by rfl) (by rfl) (by rfl) (fun v => ∃ A' c', v = Value.slice A' l.length c') (fun v w' => OwnP w' W0.heap.size v l) (fun v => ∃ g, v = Value.pointer (some ⟨g, 0, none⟩)) (fun v w' => OwnP w' W0.heap.size (.slice (some ⟨g9, 0, none⟩) 0 0) [] ∧ ∃ g, v = Value.pointer (some ⟨g, 0, none⟩) ∧ Blk w' g 24 #[.int .i64 0, .slice none 0 0] ∧ W0.heap.size ≤ g) (fun w1 hS1 hJ1 => ?_) (fun w1 hS1 hJ1 => ?_) ?_ ?_
      · skip
        refine Eff.of_list (ops := #[]) (by rfl) ?_
        refine wpList_appPs (by rfl) _ _ (by rfl) w1 W0.heap.size _ [] AL l cl hJ1 (hr0.below hS1) hAn (by rfl) (by rfl) (by simp; omega) hS1.size ?_
        intro v' w' ho hb hg
        rw [List.nil_append] at ho
        obtain ⟨A', c', e', _, _⟩ := ho.form
        exact ⟨rfl, v', rfl, hS1.trans hb, ⟨A', c', e'⟩, ho⟩
      · skip
        exact Eff.value (w' := w1.alloc (.cells #[.int .i64 0, .slice none 0 0] 24)) (v := .pointer (some ⟨w1.heap.size, 0, none⟩)) (by go_simp) ⟨hS1.trans ((newB _ _).mono hS1.size), ⟨_, rfl⟩, ownsRow_below hJ1 (newB _ _), _, rfl, Blk.new _ _ _, hS1.size⟩
      · rintro v ⟨A2, c2, rfl⟩
        rw [show List.erase [8, 9, 10, 11] 8 = [9, 10, 11] from rfl]; simp only [Act.put, List.setIfInBounds_toArray, List.set_cons_zero, List.set_cons_succ]
        refine TxtT.pure 9 (by rfl) (by rw [List.getElem?_toArray]; rfl) (by rfl) (by kernel_rfl) (by rfl) ?_; apply Exists.intro; refine ⟨fun w1 hS1 => ?_, ?_⟩; (focus (skip; go_simp; with_reducible rfl))
        rw [show List.erase [9, 10, 11] 9 = [10, 11] from rfl]; simp only [Act.put, List.setIfInBounds_toArray, List.set_cons_zero, List.set_cons_succ]
        refine TxtT.one 10 (by kernel_rfl) (by rw [List.getElem?_toArray]; rfl) (by rfl) (by rfl) (fun v => ∃ g, v = Value.pointer (some ⟨g, 0, none⟩)) (fun v w' => OwnP w' W0.heap.size (.slice A2 l.length c2) l ∧ ∃ g, v = Value.pointer (some ⟨g, 0, none⟩) ∧ Blk w' g 24 #[.int .i64 0, .slice none 0 0] ∧ W0.heap.size ≤ g) (fun w1 hS1 hJ1 => ?_) ?_
        · skip
          exact Eff.value (w' := w1.alloc (.cells #[.int .i64 0, .slice none 0 0] 24)) (v := .pointer (some ⟨w1.heap.size, 0, none⟩)) (by go_simp) ⟨hS1.trans ((newB _ _).mono hS1.size), ⟨_, rfl⟩, ownsRow_below hJ1 (newB _ _), _, rfl, Blk.new _ _ _, hS1.size⟩
        rintro v ⟨g5, rfl⟩
        rw [show List.erase [10, 11] 10 = [11] from rfl]; simp only [Act.put, List.setIfInBounds_toArray, List.set_cons_zero, List.set_cons_succ]
        refine TxtT.one 11 (by kernel_rfl) (by rw [List.getElem?_toArray]; rfl) (by rfl) (by rfl) (fun _ => True) (fun _ w' => Blk w' g5 24 #[.int .i64 ((n : Int) + (m : Int)), .slice A2 l.length c2] ∧ OwnP w' W0.heap.size (.slice A2 l.length c2) l ∧ W0.heap.size ≤ g5) (fun w1 hS1 hJ1 => ?_) ?_
        · obtain ⟨ho, g, hg, hk, hle⟩ := hJ1
          injection hg with hg; injection hg with hg; injection hg with hg _ _; subst hg
          obtain ⟨f0, f1, f2, f3⟩ := hk.two
          obtain ⟨h1, h2, h3⟩ := hstore w1 g5 (.slice A2 l.length c2) ho hk hle hS1
          exact Eff.skip (w' := (w1.setCell ⟨g5, 0, none⟩ (.int .i64 ((n : Int) + (m : Int)))).setCell ⟨g5, 1, none⟩ (.slice A2 l.length c2)) (by go_simp) ⟨h3, trivial, h1, h2, hle⟩
        rintro v8 _
        rw [show List.erase [11] 11 = [] from rfl]; simp only [Act.put]
        refine ⟨rfl, fun W1 hS hJ => ?_⟩
        obtain ⟨h1, h2, h3⟩ := hJ
        go_wp2_with fail
        go_meet
        exact ⟨g5, _, rfl, h1, h2, h3, hS⟩
      · rintro v ⟨g5, rfl⟩
        rw [show List.erase [8, 9, 10, 11] 10 = [8, 9, 11] from rfl]; simp only [Act.put, List.setIfInBounds_toArray, List.set_cons_zero, List.set_cons_succ]
        refine TxtT.one 8 (by kernel_rfl) (by rw [List.getElem?_toArray]; rfl) (by rfl) (by rfl) (fun v => ∃ A' c', v = Value.slice A' l.length c') (fun v w' => OwnP w' W0.heap.size v l ∧ ∃ g, Value.pointer (some ⟨g5, 0, none⟩) = Value.pointer (some ⟨g, 0, none⟩) ∧ Blk w' g 24 #[.int .i64 0, .slice none 0 0] ∧ W0.heap.size ≤ g) (fun w1 hS1 hJ1 => ?_) ?_
        · obtain ⟨ho9, g, hg0, hk, hle⟩ := hJ1
          refine Eff.of_list (ops := #[]) (by rfl) ?_
          refine wpList_appPs (by rfl) _ _ (by rfl) w1 W0.heap.size _ [] AL l cl ho9 (hr0.below hS1) hAn (by rfl) (by rfl) (by simp; omega) hS1.size ?_
          intro v' w' ho hb hg
          rw [List.nil_append] at ho
          obtain ⟨A', c', e', _, _⟩ := ho.form
          exact ⟨rfl, v', rfl, hS1.trans hb, ⟨A', c', e'⟩, ho, g, hg0, hk.grown hg (ho9.apartG hk), hle⟩
        rintro v ⟨A2, c2, rfl⟩
        rw [show List.erase [8, 9, 11] 8 = [9, 11] from rfl]; simp only [Act.put, List.setIfInBounds_toArray, List.set_cons_zero, List.set_cons_succ]
        refine TxtT.pure 9 (by rfl) (by rw [List.getElem?_toArray]; rfl) (by rfl) (by kernel_rfl) (by rfl) ?_; apply Exists.intro; refine ⟨fun w1 hS1 => ?_, ?_⟩; (focus (skip; go_simp; with_reducible rfl))
        rw [show List.erase [9, 11] 9 = [11] from rfl]; simp only [Act.put, List.setIfInBounds_toArray, List.set_cons_zero, List.set_cons_succ]
        refine TxtT.one 11 (by kernel_rfl) (by rw [List.getElem?_toArray]; rfl) (by rfl) (by rfl) (fun _ => True) (fun _ w' => Blk w' g5 24 #[.int .i64 ((n : Int) + (m : Int)), .slice A2 l.length c2] ∧ OwnP w' W0.heap.size (.slice A2 l.length c2) l ∧ W0.heap.size ≤ g5) (fun w1 hS1 hJ1 => ?_) ?_
        · obtain ⟨ho, g, hg, hk, hle⟩ := hJ1
          injection hg with hg; injection hg with hg; injection hg with hg _ _; subst hg
          obtain ⟨f0, f1, f2, f3⟩ := hk.two
          obtain ⟨h1, h2, h3⟩ := hstore w1 g5 (.slice A2 l.length c2) ho hk hle hS1
          exact Eff.skip (w' := (w1.setCell ⟨g5, 0, none⟩ (.int .i64 ((n : Int) + (m : Int)))).setCell ⟨g5, 1, none⟩ (.slice A2 l.length c2)) (by go_simp) ⟨h3, trivial, h1, h2, hle⟩
        rintro v8 _
        rw [show List.erase [11] 11 = [] from rfl]; simp only [Act.put]
        refine ⟨rfl, fun W1 hS hJ => ?_⟩
        obtain ⟨h1, h2, h3⟩ := hJ
        go_wp2_with fail
        go_meet
        exact ⟨g5, _, rfl, h1, h2, h3, hS⟩
    · rintro v ⟨g5, rfl⟩
      rw [show List.erase [5, 8, 9, 10, 11] 10 = [5, 8, 9, 11] from rfl]; simp only [Act.put, List.setIfInBounds_toArray, List.set_cons_zero, List.set_cons_succ]
      refine TxtT.one 5 (by kernel_rfl) (by rw [List.getElem?_toArray]; rfl) (by rfl) (by rfl) (fun v => ∃ g, v = Value.slice (some ⟨g, 0, none⟩) 0 0) (fun v w' => OwnP w' W0.heap.size v [] ∧ ∃ g, Value.pointer (some ⟨g5, 0, none⟩) = Value.pointer (some ⟨g, 0, none⟩) ∧ Blk w' g 24 #[.int .i64 0, .slice none 0 0] ∧ W0.heap.size ≤ g) (fun w1 hS1 hJ1 => ?_) ?_
      · obtain ⟨g, hg0, hk, hle⟩ := hJ1
        exact Eff.value (w' := w1.alloc (.cells #[] 39)) (v := .slice (some ⟨w1.heap.size, 0, none⟩) 0 0) (by go_simp) ⟨hS1.trans ((newB _ _).mono hS1.size), ⟨_, rfl⟩, ownsRow_mono (ownP_empty w1) hS1.size, g, hg0, hk.alloc _, hle⟩
      rintro v ⟨g9, rfl⟩
      rw [show List.erase [5, 8, 9, 11] 5 = [8, 9, 11] from rfl]; simp only [Act.put, List.setIfInBounds_toArray, List.set_cons_zero, List.set_cons_succ]
      refine TxtT.one 8 (by kernel_rfl) (by rw [List.getElem?_toArray]; rfl) (by rfl) (by rfl) (fun v => ∃ A' c', v = Value.slice A' l.length c') (fun v w' => OwnP w' W0.heap.size v l ∧ ∃ g, Value.pointer (some ⟨g5, 0, none⟩) = Value.pointer (some ⟨g, 0, none⟩) ∧ Blk w' g 24 #[.int .i64 0, .slice none 0 0] ∧ W0.heap.size ≤ g) (fun w1 hS1 hJ1 => ?_) ?_
      · obtain ⟨ho9, g, hg0, hk, hle⟩ := hJ1
        refine Eff.of_list (ops := #[]) (by rfl) ?_
        refine wpList_appPs (by rfl) _ _ (by rfl) w1 W0.heap.size _ [] AL l cl ho9 (hr0.below hS1) hAn (by rfl) (by rfl) (by simp; omega) hS1.size ?_
        intro v' w' ho hb hg
        rw [List.nil_append] at ho
        obtain ⟨A', c', e', _, _⟩ := ho.form
        exact ⟨rfl, v', rfl, hS1.trans hb, ⟨A', c', e'⟩, ho, g, hg0, hk.grown hg (ho9.apartG hk), hle⟩
      rintro v ⟨A2, c2, rfl⟩
      rw [show List.erase [8, 9, 11] 8 = [9, 11] from rfl]; simp only [Act.put, List.setIfInBounds_toArray, List.set_cons_zero, List.set_cons_succ]
      refine TxtT.pure 9 (by rfl) (by rw [List.getElem?_toArray]; rfl) (by rfl) (by kernel_rfl) (by rfl) ?_; apply Exists.intro; refine ⟨fun w1 hS1 => ?_, ?_⟩; (focus (skip; go_simp; with_reducible rfl))
      rw [show List.erase [9, 11] 9 = [11] from rfl]; simp only [Act.put, List.setIfInBounds_toArray, List.set_cons_zero, List.set_cons_succ]
      refine TxtT.one 11 (by kernel_rfl) (by rw [List.getElem?_toArray]; rfl) (by rfl) (by rfl) (fun _ => True) (fun _ w' => Blk w' g5 24 #[.int .i64 ((n : Int) + (m : Int)), .slice A2 l.length c2] ∧ OwnP w' W0.heap.size (.slice A2 l.length c2) l ∧ W0.heap.size ≤ g5) (fun w1 hS1 hJ1 => ?_) ?_
      · obtain ⟨ho, g, hg, hk, hle⟩ := hJ1
        injection hg with hg; injection hg with hg; injection hg with hg _ _; subst hg
        obtain ⟨f0, f1, f2, f3⟩ := hk.two
        obtain ⟨h1, h2, h3⟩ := hstore w1 g5 (.slice A2 l.length c2) ho hk hle hS1
        exact Eff.skip (w' := (w1.setCell ⟨g5, 0, none⟩ (.int .i64 ((n : Int) + (m : Int)))).setCell ⟨g5, 1, none⟩ (.slice A2 l.length c2)) (by go_simp) ⟨h3, trivial, h1, h2, hle⟩
      rintro v8 _
      rw [show List.erase [11] 11 = [] from rfl]; simp only [Act.put]
      refine ⟨rfl, fun W1 hS hJ => ?_⟩
      obtain ⟨h1, h2, h3⟩ := hJ
      go_wp2_with fail
      go_meet
      exact ⟨g5, _, rfl, h1, h2, h3, hS⟩
  obtain ⟨g5, v, rfl, hk5, hov, hle5, hB⟩ := hcut
  obtain ⟨W1, hW1⟩ : ∃ W1, W1 = wc := ⟨_, rfl⟩
  subst hW1
  obtain ⟨AV0, cV0, rfl, _, _⟩ := hov.form
  have hlenk := hvk.1.2.1
  have hl1600 := len_of_vld hv
  have hk1600 := len_of_vld hvk
  have HV := Lib.hid hv; have HVk := Lib.hid hvk; have Hk1 := Lib.hid k1; have Hk0 := Lib.hid k0
  have e0 := (hB.cell (lt_of_cell c0)).trans c0
  have e1 := (hB.cell (lt_of_cell c1)).trans c1
  have i0 := (hB.cell (lt_of_cell d0)).trans d0
  have i1 := (hB.cell (lt_of_cell d1)).trans d1
  clear hv hvk k0 k1
  go_wp2_with fail
  go_loopw [53] (fun i wr => ∃ (t : Nat) (AV : Option Addr) (cV : Nat), t ≤ k.length ∧ i = .int .i64 t ∧ OwnP wr W0.heap.size (.slice AV (l.length + t) cV) (l ++ (k.take t).map (shP n)) ∧ Blk wr g5 24 #[.int .i64 ((n : Int) + (m : Int)), .slice AV (l.length + t) cV] ∧ Below W0.heap.size W0 wr) (fun i _ => k.length - (intOf i).toNat)
  case atStart => exact ⟨0, AV0, cV0, Nat.zero_le _, rfl, by simpa using hov, hk5, hB⟩
  case round =>
    clear e0 e1 i0 i1 hk5 hov hB
    obtain ⟨t, AV, cV, ht, rfl, hown, kg, hbl⟩ := hrel
    obtain ⟨f0, f1, f2, f3⟩ := kg.two
    have e0 := (hbl.cell (lt_of_cell c0)).trans c0
    have e1 := (hbl.cell (lt_of_cell c1)).trans c1
    have i0 := (hbl.cell (lt_of_cell d0)).trans d0
    have i1 := (hbl.cell (lt_of_cell d1)).trans d1
    by_cases hlt : t < k.length
    case pos =>
      have hlt' : (t : Int) < (k.length : Int) := by omega
      obtain ⟨b, o, hAK, hc, hd⟩ := (hk0.below hbl).at_ hlt
      subst hAK
      have hrg := HVk.out.1.2.2 _ (List.getElem_mem hlt)
      have e : l ++ (k.take t).map (shP n) ++ [shP n k[t]] = l ++ (k.take (t + 1)).map (shP n) := by rw [List.take_succ_eq_append_getElem hlt, List.map_append, List.append_assoc]; rfl
      obtain ⟨⟨x, y⟩, hq⟩ : ∃ q, k[t] = q := ⟨_, rfl⟩
      rw [hq] at hc hd hrg e
      obtain ⟨hx0, hxm, hy0, hym⟩ := hrg
      have hc' : wr.cell? ⟨b, o + t * 2, none⟩ = some (.int .i64 x) := hc
      have hd' : wr.cell? ⟨b, o + t * 2 + 1, none⟩ = some (.int .i64 y) := hd
      have hx0' : 0 ≤ x := hx0; have hxm' : x < (m : Int) := hxm; have hy0' : 0 ≤ y := hy0; have hym' : y < (m : Int) := hym
      have hwx : IntKind.i64.wrap ((n : Int) + x) = (n : Int) + x := by rw [IntKind.wrap_i64]; omega
      have hwy : IntKind.i64.wrap ((n : Int) + y) = (n : Int) + y := by rw [IntKind.wrap_i64]; omega
      have E := Lib.hid e
      have E5 := Lib.hid (show (l ++ (k.take (t + 1)).map (shP n)).length = l.length + (t + 1) by rw [List.length_append, List.length_map, List.length_take]; omega)
      clear hc hd hx0 hxm hy0 hym hq e
      obtain ⟨W4, hW4, j0, j1, hb4, hlt4⟩ := boxed wr 39 (.int .i64 x) (.int .i64 y)
      have hs4 : W4.heap.size ≤ wr.heap.size + 1 := by rw [← hW4]; simp
      have g0 := (hb4.cell (lt_of_cell f0)).trans f0
      have g1 := (hb4.cell (lt_of_cell f1)).trans f1
      have h0 := (hb4.cell (lt_of_cell e0)).trans e0
      have hl6 : (l ++ (k.take t).map (shP n)).length ≤ 1000000 := by rw [List.length_append, List.length_map, List.length_take]; omega
      have hbl4 := hbl.trans (hb4.mono hbl.size)
      have hown4 : OwnP W4 W0.heap.size _ _ := ownsRow_below hown hb4
      have Hown4 := Lib.hid hown4
      have kg4 := kg.below hb4 kg.lt
      have Hl6 := Lib.hid hl6
      clear hb4 hown hown4 hl6
      go_wp2_with (at_builtin; go_loud (refine wpList_appP2 (by rfl) _ _ (by rfl) W4 W0.heap.size _ _ ((n : Int) + x) ((n : Int) + y) Hown4.out (by rfl) (by rfl) (by omega) Hl6.out hbl4.size ?_); intro v' w5 hown5 hb5 hg5; (rw [show l ++ (k.take t).map (shP n) ++ [((n : Int) + x, (n : Int) + y)] = l ++ (k.take (t + 1)).map (shP n) from E.out] at hown5); (obtain ⟨A5, c5, e5, _, _⟩ := OwnP.form hown5); (rw [E5.out] at e5); subst e5; have kg5 := kg4.grown hg5 (Hown4.out.apartG kg4); (obtain ⟨b0, b1, b2, b3⟩ := kg5.two); have Hown5 := Lib.hid hown5; clear hown5)
      go_roundw
      case rel =>
        exact ⟨t + 1, A5, c5, by omega, by go_num, World.ownsRow.kept Hown5.out (grownBy_setCell w5 g5 1 _) (.inr fun e => (Hown5.out.apartG kg5) e.symm), kg5.set_ 1 _, (hbl4.trans hb5).setCell (p := ⟨g5, 1, none⟩) hle5 _⟩
      case measure => simp [intOf]; omega
    case neg =>
    have htk : t = k.length := by omega
    subst htk
    have hfull : k.take k.length = k := List.take_length
    rw [hfull] at hown
    obtain ⟨AV', cV', eV, hrT, _⟩ := OwnP.form hown
    have hTl : (twoL n l k).length = l.length + k.length := by unfold twoL; rw [List.length_append, List.length_map]
    injection eV with eV1 eV2 eV3
    subst eV1
    have hrT2 : RP wr AV (twoL n l k) := hrT
    have hx := partX HV.out HVk.out (by omega)
    obtain ⟨T, hTd⟩ : ∃ T, twoL n l k = T := ⟨_, rfl⟩
    rw [hTd] at hrT2 hTl hx
    have hTlen : T.length ≤ 100000 := by omega
    obtain ⟨C1, hC1⟩ : ∃ C, compR n l = C := ⟨_, rfl⟩
    obtain ⟨C2, hC2⟩ : ∃ C, compR m k = C := ⟨_, rfl⟩
    obtain ⟨C3, hC3⟩ : ∃ C, compR ((n : Int) + (m : Int)) T = C := ⟨_, rfl⟩
    obtain ⟨N1, hN1⟩ : ∃ C, navR n l = C := ⟨_, rfl⟩
    obtain ⟨N2, hN2⟩ : ∃ C, navR m k = C := ⟨_, rfl⟩
    obtain ⟨N3, hN3⟩ : ∃ C, navR ((n : Int) + (m : Int)) T = C := ⟨_, rfl⟩
    rw [hC1, hC2, hC3, hN1, hN2, hN3] at hx
    have hBw := endB hB0 hbl
    have hrl := hr0.below hbl
    have hrk := hk0.below hbl
    have hTw := hT.below hBw
    have hcc := complete_any AL (n : Int) l cl wr hrl hlen hTw
    rw [hC1] at hcc
    have Hcc := Lib.hid hcc; have Hx := Lib.hid hx; have HC2 := Lib.hid hC2; have HC3 := Lib.hid hC3; have HN1 := Lib.hid hN1; have HN2 := Lib.hid hN2; have HN3 := Lib.hid hN3
    have HTl := Lib.hid hTl
    clear hcc hx hC1 hC2 hC3 hN1 hN2 hN3 hTl hfull eV2 eV3 hrT hTd hown kg c0 c1 d0 d1
    go_wp2_with fail
    refine Hcc.out.mono ?_
    rintro e w5 ⟨A1, c1, rfl, hr1, _, hb5⟩
    have hb5' := hb5
    have p0 := (hb5.cell (lt_of_cell i0)).trans i0
    have p1 := (hb5.cell (lt_of_cell i1)).trans i1
    have q0 := (hb5.cell (lt_of_cell f0)).trans f0
    have q1 := (hb5.cell (lt_of_cell f1)).trans f1
    have o0 := (hb5.cell (lt_of_cell e0)).trans e0
    have o1 := (hb5.cell (lt_of_cell e1)).trans e1
    have hcc := complete_any AK (m : Int) k ck w5 (hrk.below hb5) hlenk (hTw.below hb5)
    rw [HC2.out] at hcc
    have Hcc2 := Lib.hid hcc; have Hr1 := Lib.hid hr1
    clear hcc hr1 Hcc e0 e1 i0 i1 f0 f1 f2 f3
    go_wp2_with fail
    refine Hcc2.out.mono ?_
    rintro e w6 ⟨A2, c2, rfl, hr2, _, hb6⟩
    have hb56 := endB hb5 hb6
    have e0 := (hb6.cell (lt_of_cell o0)).trans o0
    have e1 := (hb6.cell (lt_of_cell o1)).trans o1
    have i0 := (hb6.cell (lt_of_cell p0)).trans p0
    have i1 := (hb6.cell (lt_of_cell p1)).trans p1
    have f0 := (hb6.cell (lt_of_cell q0)).trans q0
    have f1 := (hb6.cell (lt_of_cell q1)).trans q1
    have hcc := complete_any AV ((n : Int) + (m : Int)) T cV w6 (hrT2.below hb56) hTlen (hTw.below hb56)
    rw [HC3.out, HTl.out] at hcc
    have Hcc3 := Lib.hid hcc; have Hr2 := Lib.hid hr2
    clear hcc hr2 Hcc2 p0 p1 q0 q1 o0 o1
    go_wp2_with fail
    refine Hcc3.out.mono ?_
    rintro e w7 ⟨A3, c3, rfl, hr3, _, hb7⟩
    have hb57 := endB hb56 hb7
    have Hr3 := Lib.hid hr3
    have Hr13 := Lib.hid ((Hr1.out.below hb6).below hb7); have Hr23 := Lib.hid (Hr2.out.below hb7)
    have p0 := (hb7.cell (lt_of_cell i0)).trans i0
    have p1 := (hb7.cell (lt_of_cell i1)).trans i1
    have q0 := (hb7.cell (lt_of_cell f0)).trans f0
    have q1 := (hb7.cell (lt_of_cell f1)).trans f1
    have o0 := (hb7.cell (lt_of_cell e0)).trans e0
    have o1 := (hb7.cell (lt_of_cell e1)).trans e1
    have hTA := hTw.below hb57
    clear hr3 Hcc3 e0 e1 i0 i1 f0 f1 Hr1 Hr2
    obtain ⟨L1, x1⟩ := C1
    obtain ⟨L2, x2⟩ := C2
    obtain ⟨L3, x3⟩ := C3
    have hcase := Hx.out.lim
    simp only at hcase
    rcases hcase with ⟨h1, h3⟩ | ⟨h1, h2, h3⟩ | ⟨h1, h2, h3, hl⟩ | ⟨h1, h2, h3, hl⟩
    · subst h1 h3
      go_wp2_with fail
      refine (awake14_any w7 hTA).mono ?_
      rintro e w9 ⟨rfl, hb9⟩
      go_wp2_with fail
      go_ret
      exact ⟨rfl, endB (endB hBw hb57) hb9⟩
    · subst h1 h2 h3
      go_wp2_with fail
      refine (awake14_any w7 hTA).mono ?_
      rintro e w9 ⟨rfl, hb9⟩
      go_wp2_with fail
      go_ret
      exact ⟨rfl, endB (endB hBw hb57) hb9⟩
    · subst h1 h2 h3
      obtain ⟨hl1, hl2, hl3⟩ := hl
      have hl1' : L1.length ≤ 200 := hl1; have hl2' : L2.length ≤ 200 := hl2; have hl3' : 200 < L1.length * L2.length := hl3
      obtain ⟨hb0, hb1, hb2⟩ : (0 : Int) ≤ (L1.length : Int) * (L2.length : Int) ∧ (L1.length : Int) * (L2.length : Int) ≤ 40000 ∧ (200 : Int) < (L1.length : Int) * (L2.length : Int) := mul_facts hl1' hl2' hl3'
      have hb3 : decide ((200 : Int) < (L1.length : Int) * (L2.length : Int)) = true := decide_eq_true hb2
      clear hl1 hl2 hl3 hl3'
      go_wp2_with fail
      refine (awake14_any w7 hTA).mono ?_
      rintro e w9 ⟨rfl, hb9⟩
      go_wp2_with fail
      go_ret
      exact ⟨rfl, endB (endB hBw hb57) hb9⟩
    · subst h1 h2 h3
      obtain ⟨hl1, hl2, hl3, hl4⟩ := hl
      have hl1' : L1.length ≤ 200 := hl1; have hl2' : L2.length ≤ 200 := hl2
      have hl3' : L3 = pairsL (· ++ ·) L1 L2 := hl3
      have hlen3 : L3.length = L1.length * L2.length := by rw [hl3', pairsL_length]
      obtain ⟨hb0, hb1⟩ : (0 : Int) ≤ (L1.length : Int) * (L2.length : Int) ∧ (L1.length : Int) * (L2.length : Int) ≤ 40000 := mul_facts2 hl1' hl2'
      have hb2 : ((L3.length : Int) != (L1.length : Int) * (L2.length : Int)) = false := by rw [hlen3, Int.natCast_mul]; exact bne_self_eq_false _
      have Hl3 := Lib.hid hl3'; have Hlen3 := Lib.hid hlen3
      have hx1 : ∀ x ∈ L1, x.length ≤ 100 := Hx.out.len1
      have hx2 : ∀ x ∈ L2, x.length ≤ 100 := Hx.out.len2
      have Hx1 := Lib.hid hx1; have Hx2 := Lib.hid hx2
      have hL3 : L3.length ≤ 200 := by rw [hlen3]; exact hl4
      obtain ⟨M1, y1⟩ := N1
      obtain ⟨M2, y2⟩ := N2
      obtain ⟨M3, y3⟩ := N3
      obtain ⟨z1, z2, z3⟩ : y1 = 0 ∧ y2 = 0 ∧ y3 = 0 := Hx.out.nav0
      have hm1 : M1.length ≤ 200 := Hx.out.navl.1
      have hm2 : M2.length ≤ 200 := Hx.out.navl.2
      have hml : M3.length = M1.length * M2.length := Hx.out.nav3
      obtain ⟨hm0, hmb⟩ : (0 : Int) ≤ (M1.length : Int) * (M2.length : Int) ∧ (M1.length : Int) * (M2.length : Int) ≤ 40000 := mul_facts2 hm1 hm2
      have hsp : ∀ i (h : i < M3.length), leftL n M3[i] ∈ M1 ∧ rightL n M3[i] ∈ M2 ∧ M3[i].length ≤ 100 ∧ ∀ q ∈ M3[i], 0 ≤ q ∧ q ≤ 100 := Hx.out.split
      have hsm1 : ∀ x ∈ M1, x.length ≤ 100 := Hx.out.nav1
      have hsm2 : ∀ x ∈ M2, x.length ≤ 100 := Hx.out.nav2
      have Hsp := Lib.hid hsp; have Hsm1 := Lib.hid hsm1; have Hsm2 := Lib.hid hsm2
      clear hsp hsm1 hsm2
      have hmt : ((M3.length : Int) != (M1.length : Int) * (M2.length : Int)) = false := by rw [hml, Int.natCast_mul]; exact bne_self_eq_false _
      subst z1 z2 z3
      have hM3 : M3.length ≤ 40000 := by rw [hml]; have := Nat.mul_le_mul hm1 hm2; omega
      have Hml := Lib.hid hml
      have hn1 := naive_any AL (n : Int) l cl w7 (hrl.below hb57) hlen hTA
      rw [HN1.out] at hn1
      have Hn1 := Lib.hid hn1
      clear hl1 hl2 hl3 hl4 hl3' hlen3 hx1 hx2 hml hn1
      go_wp2_with fail
      refine Hn1.out.mono ?_
      rintro e w8 ⟨B1, k1, rfl, hs1, _, hb8⟩
      have hs1' : RSo w8 B1 M1 := hs1
      have e0 := (hb8.cell (lt_of_cell o0)).trans o0
      have i0 := (hb8.cell (lt_of_cell p0)).trans p0
      have i1 := (hb8.cell (lt_of_cell p1)).trans p1
      have f0 := (hb8.cell (lt_of_cell q0)).trans q0
      have f1 := (hb8.cell (lt_of_cell q1)).trans q1
      have hn2 := naive_any AK (m : Int) k ck w8 ((hrk.below hb57).below hb8) hlenk (hTA.below hb8)
      rw [HN2.out] at hn2
      have Hn2 := Lib.hid hn2; have Hs1 := Lib.hid hs1'
      clear hn2 hs1 hs1' Hn1 o0 o1 p0 p1 q0 q1
      go_wp2_with fail
      refine Hn2.out.mono ?_
      rintro e w9 ⟨B2, k2, rfl, hs2, _, hb9⟩
      have hs2' : RSo w9 B2 M2 := hs2
      have hb89 := endB hb8 hb9
      have o0 := (hb9.cell (lt_of_cell e0)).trans e0
      have q0 := (hb9.cell (lt_of_cell f0)).trans f0
      have q1 := (hb9.cell (lt_of_cell f1)).trans f1
      have hn3 := naive_any AV ((n : Int) + (m : Int)) T cV w9 ((hrT2.below hb57).below hb89) hTlen (hTA.below hb89)
      rw [HN3.out, HTl.out] at hn3
      have Hn3 := Lib.hid hn3; have Hs2 := Lib.hid hs2'; have Hs12 := Lib.hid (Hs1.out.below hb9)
      clear hn3 hs2 hs2' Hn2 Hs1 e0 i0 i1 f0 f1
      go_wp2_with fail
      refine Hn3.out.mono ?_
      rintro e w10 ⟨B3, k3, rfl, hs3, _, hb10⟩
      have hs3' : RSo w10 B3 M3 := hs3
      have hb710 := endB hb89 hb10
      have o1 := (hb10.cell (lt_of_cell o0)).trans o0
      have Hs3 := Lib.hid hs3'; have Hs13 := Lib.hid (Hs12.out.below hb10); have Hs23 := Lib.hid (Hs2.out.below hb10)
      have Hr1 := Lib.hid (Hr13.out.below hb710); have Hr2 := Lib.hid (Hr23.out.below hb710); have Hr3' := Lib.hid (Hr3.out.below hb710)
      have hTB := hTA.below hb710
      have hB10 := endB (endB hBw hb57) hb710
      clear hs3 hs3' Hn3 Hs2 Hs12 q0 q1 Hr13 Hr23 Hr3 o0
      go_wp2_with fail
      go_loopw [179] (fun i wr => ∃ u : Nat, u ≤ L1.length ∧ i = .int .i64 u ∧ Below w10.heap.size w10 wr) (fun i _ => L1.length - (intOf i).toNat)
      case atStart => exact ⟨0, Nat.zero_le _, rfl, Below.refl _ _⟩
      case round =>
        obtain ⟨u, hu, rfl, hbu⟩ := hrel
        have hBu := endB hB10 hbu
        by_cases hul : u < L1.length
        case pos =>
          have hul' : (u : Int) < (L1.length : Int) := by omega
          have hu0 : (0 : Int) ≤ (u : Int) := by omega
          obtain ⟨wo, hwo⟩ : ∃ wo, wo = wr := ⟨_, rfl⟩
          subst hwo
          go_wp2_with fail
          go_loopw [184] (fun j wr => ∃ v : Nat, v ≤ L2.length ∧ j = .int .i64 v ∧ Below wo.heap.size wo wr) (fun j _ => L2.length - (intOf j).toNat)
          case atStart => exact ⟨0, Nat.zero_le _, rfl, Below.refl _ _⟩
          case round =>
            obtain ⟨v, hv, rfl, hbv⟩ := hrel
            have hbuv := endB hbu hbv
            by_cases hvl : v < L2.length
            case neg =>
              go_wp2_with fail
              go_roundw
              case rel => exact ⟨u + 1, by omega, by go_num, hbuv⟩
              case measure => simp [intOf]; omega
            case pos =>
            have hvl' : (v : Int) < (L2.length : Int) := by omega
            have hv0 : (0 : Int) ≤ (v : Int) := by omega
            obtain ⟨P, hP⟩ : ∃ P : Nat, P = u * L2.length + v := ⟨_, rfl⟩
            have hPlt : P < L3.length := by
              rw [Hlen3.out, hP]
              have : (u + 1) * L2.length ≤ L1.length * L2.length := Nat.mul_le_mul_right _ hul
              rw [Nat.add_mul, Nat.one_mul] at this
              omega
            have hPe : (u : Int) * (L2.length : Int) + (v : Int) = (P : Int) := by rw [hP]; push_cast; rfl
            have hu2 : (0 : Int) ≤ (u : Int) * (L2.length : Int) ∧ (u : Int) * (L2.length : Int) ≤ 40000 := mul_facts2 (by omega) (by omega)
            obtain ⟨hu3, hu4⟩ := hu2
            have hPl' : (P : Int) < (L3.length : Int) := by omega
            have hP0 : (0 : Int) ≤ (P : Int) := by omega
            have hPy : L3[P] = L1[u] ++ L2[v] := by
              have h9 := pairsL_at (fun x y : List Int => x ++ y) L1 L2 u v hul hvl
              have h8 : L3[P]? = some (L1[u] ++ L2[v]) := by rw [hP, Hl3.out]; exact h9
              rw [List.getElem?_eq_getElem hPlt] at h8
              exact Option.some.inj h8
            obtain ⟨r1, o1', X1, s1, hA1, hc1, hown1, hri1⟩ := Hr1.out.below hbuv u hul
            obtain ⟨r2, o2', X2, s2, hA2, hc2, hown2, hri2⟩ := Hr2.out.below hbuv v hvl
            obtain ⟨r3, o3', X3, s3, hA3, hc3, _, hri3⟩ := Hr3'.out.below hbuv P hPlt
            have hq1 := Hx1.out _ (List.getElem_mem hul)
            have hq2 := Hx2.out _ (List.getElem_mem hvl)
            have hnn1 : X1 = none → L1[u] = [] ∧ s1 = 0 := own_none hown1
            have hnn2 : X2 = none → L2[v] = [] ∧ s2 = 0 := own_none hown2
            subst hA1 hA2 hA3
            rw [hPy] at hc3 hri3
            obtain ⟨x, hx⟩ : ∃ x, L1[u] = x := ⟨_, rfl⟩
            obtain ⟨y, hy⟩ : ∃ y, L2[v] = y := ⟨_, rfl⟩
            obtain ⟨z, hz⟩ : ∃ z, x ++ y = z := ⟨_, rfl⟩
            rw [hx, hy, hz] at hc3 hri3
            rw [hx] at hc1 hri1 hq1 hnn1
            rw [hy] at hc2 hri2 hq2 hnn2
            have Hz := Lib.hid hz; have Hn1 := Lib.hid hnn1; have Hn2 := Lib.hid hnn2
            have hzl : z.length ≤ 100000 := by rw [← hz, List.length_append]; omega
            have hwm : IntKind.i64.wrap ((u : Int) * (L2.length : Int)) = (u : Int) * (L2.length : Int) := by rw [IntKind.wrap_i64]; omega
            have hwp : IntKind.i64.wrap ((P : Int)) = (P : Int) := by rw [IntKind.wrap_i64]; omega
            clear hP hPy hx hy hz hnn1 hnn2 hown1 hown2
            obtain ⟨wq, hwq⟩ : ∃ wq, wq = wr := ⟨_, rfl⟩
            subst hwq
            go_upto_region 25 with fail
            refine wp_region_textB [9, 14, 19, 20] (SB wq) (fun _ => True) (by kernel_rfl) (by kernel_rfl) (by kernel_rfl) (Below.refl _ _).drew trivial ?_
            repeat (first
              | (refine TxtBL.skip (by rfl) ?_; simp only [Act.put, List.setIfInBounds_toArray, List.set_cons_zero, List.set_cons_succ])
              | (refine TxtBL.take (by rfl) (by rfl) ?_; apply Exists.intro; refine ⟨fun w1 hS1 => ?_, ?_⟩; (focus ((have g1 := (hS1.cell (lt_of_cell hc1)).trans hc1); (have g2 := (hS1.cell (lt_of_cell hc2)).trans hc2); (have g3 := (hS1.cell (lt_of_cell hc3)).trans hc3); go_simp; with_reducible rfl)); simp only [Act.put, List.setIfInBounds_toArray, List.set_cons_zero, List.set_cons_succ])
              | (refine TxtBL.takeE (by rfl) (by rfl) ?_; apply Exists.intro; refine ⟨fun w1 hS1 => ?_, ?_⟩; (focus ((have g1 := (hS1.cell (lt_of_cell hc1)).trans hc1); (have g2 := (hS1.cell (lt_of_cell hc2)).trans hc2); (have g3 := (hS1.cell (lt_of_cell hc3)).trans hc3); go_simp; with_reducible rfl)); simp only [Act.put, List.setIfInBounds_toArray, List.set_cons_zero, List.set_cons_succ]))
            refine TxtBL.value (fun v => ∃ g, v = Value.slice (some ⟨g, 0, none⟩) 0 0) (fun v w' => OwnI w' wq.heap.size v []) (by rfl) (by rfl) ⟨_, 0, rfl⟩ (fun w1 hS1 hJ1 => ⟨.slice (some ⟨w1.heap.size, 0, none⟩) 0 0, w1.alloc (.cells #[] 3), by go_simp, hS1.trans ((newB _ _).mono hS1.size), ⟨_, rfl⟩, OwnI.mono (own_empty w1) hS1.size⟩) ?_
            rintro v196 ⟨g9, rfl⟩
            simp only [Act.put, List.setIfInBounds_toArray, List.set_cons_zero, List.set_cons_succ]
            repeat (first
              | (refine TxtBL.skip (by rfl) ?_; simp only [Act.put, List.setIfInBounds_toArray, List.set_cons_zero, List.set_cons_succ])
              | (refine TxtBL.take (by rfl) (by rfl) ?_; apply Exists.intro; refine ⟨fun w1 hS1 => ?_, ?_⟩; (focus ((have g1 := (hS1.cell (lt_of_cell hc1)).trans hc1); (have g2 := (hS1.cell (lt_of_cell hc2)).trans hc2); go_simp; with_reducible rfl)); simp only [Act.put, List.setIfInBounds_toArray, List.set_cons_zero, List.set_cons_succ])
              | (refine TxtBL.takeE (by rfl) (by rfl) ?_; apply Exists.intro; refine ⟨fun w1 hS1 => ?_, ?_⟩; (focus ((have g1 := (hS1.cell (lt_of_cell hc1)).trans hc1); (have g2 := (hS1.cell (lt_of_cell hc2)).trans hc2); go_simp; with_reducible rfl)); simp only [Act.put, List.setIfInBounds_toArray, List.set_cons_zero, List.set_cons_succ]))
            refine TxtBL.eff (fun v => ∃ A' c', v = Value.slice A' x.length c') (fun v w' => OwnI w' wq.heap.size v x) (by rfl) (by rfl) ⟨_, none, 0, rfl⟩ (fun w1 hS1 hJ1 => Eff.of_list (ops := #[]) (by rfl) ?_) ?_
            · refine wpList_appIs (by rfl) _ _ (by rfl) w1 wq.heap.size _ [] X1 x s1 hJ1 (hri1.below hS1) Hn1.out (by rfl) (by rfl) (by simp; omega) hS1.size ?_
              intro v' w' ho hb hg
              rw [List.nil_append] at ho
              obtain ⟨A', c', e', _, _⟩ := ho.form
              exact ⟨rfl, v', rfl, hS1.trans hb, ⟨A', c', e'⟩, ho⟩
            rintro v201 ⟨A9, c9, rfl⟩
            simp only [Act.put, List.setIfInBounds_toArray, List.set_cons_zero, List.set_cons_succ]
            repeat (first
              | (refine TxtBL.skip (by rfl) ?_; simp only [Act.put, List.setIfInBounds_toArray, List.set_cons_zero, List.set_cons_succ])
              | (refine TxtBL.take (by rfl) (by rfl) ?_; apply Exists.intro; refine ⟨fun w1 hS1 => ?_, ?_⟩; (focus ((have g1 := (hS1.cell (lt_of_cell hc1)).trans hc1); (have g2 := (hS1.cell (lt_of_cell hc2)).trans hc2); go_simp; with_reducible rfl)); simp only [Act.put, List.setIfInBounds_toArray, List.set_cons_zero, List.set_cons_succ])
              | (refine TxtBL.takeE (by rfl) (by rfl) ?_; apply Exists.intro; refine ⟨fun w1 hS1 => ?_, ?_⟩; (focus ((have g1 := (hS1.cell (lt_of_cell hc1)).trans hc1); (have g2 := (hS1.cell (lt_of_cell hc2)).trans hc2); go_simp; with_reducible rfl)); simp only [Act.put, List.setIfInBounds_toArray, List.set_cons_zero, List.set_cons_succ]))
            refine TxtBL.eff (fun v => ∃ A' c', v = Value.slice A' z.length c') (fun v w' => OwnI w' wq.heap.size v z) (by rfl) (by rfl) ⟨_, none, 0, rfl⟩ (fun w1 hS1 hJ1 => Eff.of_list (ops := #[]) (by rfl) ?_) ?_
            · refine wpList_appIs (by rfl) _ _ (by rfl) w1 wq.heap.size _ x X2 y s2 hJ1 (hri2.below hS1) Hn2.out (by rfl) (by rfl) (by omega) hS1.size ?_
              intro v' w' ho hb hg
              rw [Hz.out] at ho
              obtain ⟨A', c', e', _, _⟩ := ho.form
              exact ⟨rfl, v', rfl, hS1.trans hb, ⟨A', c', e'⟩, ho⟩
            rintro v206 ⟨A8, c8, rfl⟩
            simp only [Act.put, List.setIfInBounds_toArray, List.set_cons_zero, List.set_cons_succ]
            refine TxtBL.call (f := 24) (args := #[.slice X3 z.length s3, .slice A8 z.length c8]) (fun v => v = .bool true) (fun _ _ => True) (by rfl) (by rfl) ⟨_, rfl⟩ (fun w1 hS1 hJ1 => by go_simp) (fun w1 hS1 hJ1 => ?_) ?_
            · obtain ⟨A', c', e', hr', _⟩ := OwnI.form hJ1
              injection e' with e1 e2 e3
              subst e1 e3
              have H9 := ints_any X3 A8 z z s3 c8 w1 (by omega) (by omega) (hri3.below hS1) hr'
              rw [(eqB_iff _ _).2 rfl] at H9
              refine H9.mono ?_
              rintro e w' h
              obtain ⟨rfl, hb'⟩ := h.below
              exact ⟨_, rfl, hS1.trans (hb'.mono hS1.size), rfl, trivial⟩
            rintro v207 rfl
            simp only [Act.put, List.setIfInBounds_toArray, List.set_cons_zero, List.set_cons_succ]
            repeat (first
              | (refine TxtBL.skip (by rfl) ?_; simp only [Act.put, List.setIfInBounds_toArray, List.set_cons_zero, List.set_cons_succ])
              | (refine TxtBL.take (by rfl) (by rfl) ?_; apply Exists.intro; refine ⟨fun w1 hS1 => ?_, ?_⟩; (focus (skip; go_simp; with_reducible rfl)); simp only [Act.put, List.setIfInBounds_toArray, List.set_cons_zero, List.set_cons_succ])
              | (refine TxtBL.takeE (by rfl) (by rfl) ?_; apply Exists.intro; refine ⟨fun w1 hS1 => ?_, ?_⟩; (focus (skip; go_simp; with_reducible rfl)); simp only [Act.put, List.setIfInBounds_toArray, List.set_cons_zero, List.set_cons_succ]))
            refine TxtBL.nil (fun W2 hS hJ => ?_)
            go_wp2_with fail
            go_roundw
            case rel => exact ⟨v + 1, by omega, by go_num, hbv.trans (hS.mono hbv.size)⟩
            case measure => simp [intOf]; omega
        case neg =>
        obtain ⟨wa, hwa⟩ : ∃ wa, wa = wr := ⟨_, rfl⟩
        subst hwa
        have r0 := (hbu.cell (lt_of_cell o1)).trans o1
        have Hs3a := Lib.hid (Hs3.out.below hbu); have Hs1a := Lib.hid (Hs13.out.below hbu); have Hs2a := Lib.hid (Hs23.out.below hbu)
        have hTa := hTB.below hbu
        clear o1
        go_wp2_with fail
        go_loopw [213] (fun i wr => ∃ q : Nat, q ≤ M3.length ∧ i = .int .i64 q ∧ Below wa.heap.size wa wr) (fun i _ => M3.length - (intOf i).toNat)
        case atStart => exact ⟨0, Nat.zero_le _, rfl, Below.refl _ _⟩
        case round =>
          obtain ⟨q, hq, rfl, hbq⟩ := hrel
          have hBq := endB hBu hbq
          by_cases hql : q < M3.length
          case neg =>
            go_wp2_with fail
            refine (awake14_any wr (hTa.below hbq)).mono ?_
            rintro e w11 ⟨rfl, hb11⟩
            go_wp2_with fail
            go_ret
            exact ⟨rfl, endB hBq hb11⟩
          case pos =>
          have hql' : (q : Int) < (M3.length : Int) := by omega
          have hq0 : (0 : Int) ≤ (q : Int) := by omega
          obtain ⟨b, o, AX, cx, hA, hcell, _, hrix⟩ := Hs3a.out.below hbq q hql
          subst hA
          obtain ⟨hlf, hrt, hsx, hqx⟩ := Hsp.out q hql
          obtain ⟨x, hx⟩ : ∃ x, M3[q] = x := ⟨_, rfl⟩
          rw [hx] at hcell hrix hlf hrt hsx hqx
          have Hlf := Lib.hid hlf; have Hrt := Lib.hid hrt; have Hqx := Lib.hid hqx
          clear hx hlf hrt hqx
          have t0 := (hbq.cell (lt_of_cell r0)).trans r0
          obtain ⟨wo, hwo⟩ : ∃ wo, wo = wr := ⟨_, rfl⟩
          subst hwo
          go_wp2_with fail
          go_loopw [24, 25, 221] (fun lf rt j wr => ∃ t : Nat, t ≤ x.length ∧ j = .int .i64 t ∧ OwnI wr wo.heap.size lf (leftL n (x.take t)) ∧ OwnI wr wo.heap.size rt (rightL n (x.take t)) ∧ Far lf rt ∧ Below wo.heap.size wo wr) (fun _ _ j _ => x.length - (intOf j).toNat)
          case atStart => exact ⟨0, Nat.zero_le _, rfl, OwnI.nil _ _, OwnI.nil _ _, Far.nil _, Below.refl _ _⟩
          case round =>
            obtain ⟨t, ht, rfl, hol, hor, hfar, hbt⟩ := hrel
            by_cases htl : t < x.length
            case pos =>
              have htl' : (t : Int) < (x.length : Int) := by omega
              obtain ⟨b', o', hAX, hce⟩ := (hrix.below hbt).at_ htl
              subst hAX
              obtain ⟨hy0, hy1⟩ := Hqx.out _ (List.getElem_mem htl)
              have hstl : x.take (t + 1) = x.take t ++ [x[t]] := List.take_succ_eq_append_getElem htl
              have hll := part_len (n := n) (x.take t)
              have hlt := List.length_take_le' t x
              obtain ⟨y, hy⟩ : ∃ y, x[t] = y := ⟨_, rfl⟩
              rw [hy] at hce hy0 hy1 hstl
              have hl1 : (leftL n (x.take t)).length ≤ 1000000 := by omega
              have hl2 : (rightL n (x.take t)).length ≤ 1000000 := by omega
              have u0 := (hbt.cell (lt_of_cell t0)).trans t0
              have Hol := Lib.hid hol; have Hor := Lib.hid hor; have Hfar := Lib.hid hfar; have Hstl := Lib.hid hstl; have Hl1 := Lib.hid hl1; have Hl2 := Lib.hid hl2
              clear hol hor hfar hstl hl1 hl2 hy hll hlt
              by_cases hyn : y < (n : Int)
              case pos =>
                go_wp2_with (at_builtin; refine wpList_appI2 (by rfl) (.tmp 229) (.tmp 231) (by rfl) wr wo.heap.size _ _ y Hol.out (by rfl) (by rfl) rfl Hl1.out hbt.size ?_; intro v' w3 hown' hb3 hg3 hv3)
                go_roundw
                case rel =>
                  refine ⟨t + 1, by omega, by go_num, ?_, ?_, Far.appended Hfar.out Hor.out hv3, hbt.trans hb3⟩
                  · rw [Hstl.out, leftL_snoc, if_pos hyn]; exact hown'
                  · rw [Hstl.out, rightL_snoc, if_pos hyn, List.append_nil]; exact OwnI.keep Hor.out hg3 Hfar.out
                case measure => simp [intOf]; omega
              case neg =>
                have hyd : decide (y < (n : Int)) = false := by rw [decide_eq_false_iff_not]; exact hyn
                have hwy : IntKind.i64.wrap (y - (n : Int)) = y - (n : Int) := by rw [IntKind.wrap_i64]; omega
                go_wp2_with (at_builtin; refine wpList_appI2 (by rfl) (.tmp 233) (.tmp 238) (by rfl) wr wo.heap.size _ _ (y - (n : Int)) Hor.out (by rfl) (by rfl) rfl Hl2.out hbt.size ?_; intro v' w3 hown' hb3 hg3 hv3)
                go_roundw
                case rel =>
                  refine ⟨t + 1, by omega, by go_num, ?_, ?_, (Far.appended Hfar.out.symm Hol.out hv3).symm, hbt.trans hb3⟩
                  · rw [Hstl.out, leftL_snoc, if_neg hyn, List.append_nil]; exact OwnI.keep Hol.out hg3 Hfar.out.symm
                  · rw [Hstl.out, rightL_snoc, if_neg hyn]; exact hown'
                case measure => simp [intOf]; omega
            case neg =>
            rw [List.take_of_length_le (by omega)] at hol hor
            have hlf := Hlf.out; have hrt := Hrt.out
            obtain ⟨a, ha⟩ : ∃ a, leftL n x = a := ⟨_, rfl⟩
            obtain ⟨d, hd⟩ : ∃ d, rightL n x = d := ⟨_, rfl⟩
            rw [ha] at hol hlf
            rw [hd] at hor hrt
            obtain ⟨Aa, ca, rfl, hra, _⟩ := OwnI.form hol
            obtain ⟨Ad, cd, rfl, hrd, _⟩ := OwnI.form hor
            have hla := Hsm1.out a hlf
            have hld := Hsm2.out d hrt
            have hita : (M1.any fun y => eqB a y) = true := List.any_eq_true.2 ⟨a, hlf, (eqB_iff _ _).2 rfl⟩
            have hitd : (M2.any fun y => eqB d y) = true := List.any_eq_true.2 ⟨d, hrt, (eqB_iff _ _).2 rfl⟩
            have Hita := Lib.hid hita; have Hitd := Lib.hid hitd
            clear hol hor hfar hlf hrt ha hd hita hitd Hlf Hrt
            obtain ⟨wp, hwp⟩ : ∃ wp, wp = wr := ⟨_, rfl⟩
            subst hwp
            have hbqt := endB hbq hbt
            go_wp2_with fail
            go_loopw [28, 243] (fun h j wi => ∃ t : Nat, t ≤ M1.length ∧ j = .int .i64 t ∧ h = .bool ((M1.take t).any fun y => eqB a y) ∧ Below wp.heap.size wp wi) (fun _ j _ => M1.length - (intOf j).toNat)
            case atStart => exact ⟨0, Nat.zero_le _, rfl, by simp, Below.refl _ _⟩
            case round =>
              obtain ⟨r, hr, rfl, rfl, hbr⟩ := hrel
              obtain ⟨f, hf⟩ : ∃ f, ((M1.take r).any fun y => eqB a y) = f := ⟨_, rfl⟩
              rw [hf]
              have Hf := Lib.hid hf
              clear hf
              by_cases hrl : r < M1.length
              case pos =>
                have hrl' : (r : Int) < (M1.length : Int) := by omega
                obtain ⟨b', o', AY, cy, hA', hcelly, _, hriy⟩ := (Hs1a.out.below (endB hbqt hbr)) r hrl
                subst hA'
                have hys := Hsm1.out _ (List.getElem_mem hrl)
                have hstp := any_stepP (fun y => eqB a y) M1 hrl
                rw [Hf.out] at hstp
                obtain ⟨y, hy⟩ : ∃ y, M1[r] = y := ⟨_, rfl⟩
                rw [hy] at hcelly hriy hys hstp
                have Hstp := Lib.hid hstp
                have hq := ints_any Aa AY a y ca cy wr (by omega) (by omega) (hra.below hbr) hriy
                obtain ⟨z, hzz⟩ : ∃ z, eqB a y = z := ⟨_, rfl⟩
                rw [hzz] at hq
                have Hq := Lib.hid hq; have Hzz := Lib.hid hzz
                clear hq hzz hstp hy
                cases f
                case true =>
                  go_wp2_with fail
                  go_roundw
                  case rel => exact ⟨r + 1, by omega, by go_num, by rw [Hstp.out]; rfl, hbr⟩
                  case measure => simp [intOf]; omega
                case false =>
                  go_wp2_with fail
                  refine Hq.out.mono ?_
                  rintro e w12 hret
                  obtain ⟨rfl, hb12⟩ := hret.below
                  clear hret
                  cases z
                  · go_wp2_with fail
                    go_roundw
                    case rel => exact ⟨r + 1, by omega, by go_num, by rw [Hstp.out]; simp only [Hzz.out]; rfl, hbr.trans (hb12.mono hbr.size)⟩
                    case measure => simp [intOf]; omega
                  · go_wp2_with fail
                    go_roundw
                    case rel => exact ⟨r + 1, by omega, by go_num, by rw [Hstp.out]; simp only [Hzz.out]; rfl, hbr.trans (hb12.mono hbr.size)⟩
                    case measure => simp [intOf]; omega
              case neg =>
              have hft : f = true := by
                have h1 := Hf.out
                rw [List.take_of_length_le (by omega), Hita.out] at h1
                exact h1.symm
              subst hft
              obtain ⟨wv, hwv⟩ : ∃ wv, wv = wr := ⟨_, rfl⟩
              subst hwv
              have hrd' := hrd.below hbr
              have hbqr := endB hbqt hbr
              go_wp2_with fail
              go_loopw [29, 256] (fun h j wi => ∃ t : Nat, t ≤ M2.length ∧ j = .int .i64 t ∧ h = .bool ((M2.take t).any fun y => eqB d y) ∧ Below wv.heap.size wv wi) (fun _ j _ => M2.length - (intOf j).toNat)
              case atStart => exact ⟨0, Nat.zero_le _, rfl, by simp, Below.refl _ _⟩
              case round =>
                obtain ⟨g, hg, rfl, rfl, hbg⟩ := hrel
                obtain ⟨f, hf⟩ : ∃ f, ((M2.take g).any fun y => eqB d y) = f := ⟨_, rfl⟩
                rw [hf]
                have Hf2 := Lib.hid hf
                clear hf
                by_cases hgl : g < M2.length
                case pos =>
                  have hgl' : (g : Int) < (M2.length : Int) := by omega
                  obtain ⟨b', o', AY, cy, hA', hcelly, _, hriy⟩ := (Hs2a.out.below (endB hbqr hbg)) g hgl
                  subst hA'
                  have hys := Hsm2.out _ (List.getElem_mem hgl)
                  have hstp := any_stepP (fun y => eqB d y) M2 hgl
                  rw [Hf2.out] at hstp
                  obtain ⟨y, hy⟩ : ∃ y, M2[g] = y := ⟨_, rfl⟩
                  rw [hy] at hcelly hriy hys hstp
                  have Hstp := Lib.hid hstp
                  have hq := ints_any Ad AY d y cd cy wr (by omega) (by omega) (hrd'.below hbg) hriy
                  obtain ⟨z, hzz⟩ : ∃ z, eqB d y = z := ⟨_, rfl⟩
                  rw [hzz] at hq
                  have Hq := Lib.hid hq; have Hzz := Lib.hid hzz
                  clear hq hzz hstp hy
                  cases f
                  case true =>
                    go_wp2_with fail
                    go_roundw
                    case rel => exact ⟨g + 1, by omega, by go_num, by rw [Hstp.out]; rfl, hbg⟩
                    case measure => simp [intOf]; omega
                  case false =>
                    go_wp2_with fail
                    refine Hq.out.mono ?_
                    rintro e w12 hret
                    obtain ⟨rfl, hb12⟩ := hret.below
                    clear hret
                    cases z
                    · go_wp2_with fail
                      go_roundw
                      case rel => exact ⟨g + 1, by omega, by go_num, by rw [Hstp.out]; simp only [Hzz.out]; rfl, hbg.trans (hb12.mono hbg.size)⟩
                      case measure => simp [intOf]; omega
                    · go_wp2_with fail
                      go_roundw
                      case rel => exact ⟨g + 1, by omega, by go_num, by rw [Hstp.out]; simp only [Hzz.out]; rfl, hbg.trans (hb12.mono hbg.size)⟩
                      case measure => simp [intOf]; omega
                case neg =>
                have hft : f = true := by
                  have h1 := Hf2.out
                  rw [List.take_of_length_le (by omega), Hitd.out] at h1
                  exact h1.symm
                subst hft
                go_wp2_with fail
                go_roundw
                case rel => exact ⟨q + 1, by omega, by go_num, endB (endB hbqt hbr) hbg⟩
                case measure => simp [intOf]; omega
end Go.Proofs.YtajocnhebfpjaaaDoor
