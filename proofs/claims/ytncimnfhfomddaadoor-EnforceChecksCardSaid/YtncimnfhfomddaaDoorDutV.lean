import Derived.Test.YtncimnfhfomddaaDoorDutW
/- enforce.duties of the other kind. -/
namespace Go.Proofs.YtncimnfhfomddaaDoor
open Go.ChangeShapes Go.WideShapes Go.ChangeAt Go.RowKit

set_option maxRecDepth 100000 in
set_option maxHeartbeats 4000000 in
theorem duties2_any (A : Option Addr) (n : Nat) (G : List (Int × Int)) (c : Nat) (Bs : Option Addr) (s : List Int) (cs : Nat) (w : World) (hr : RP w A G) (hv : Vld n G) (hs : RI w Bs s) (hst : setB n s = true) (hT : Tab w) :
    Calls Tryd.prog 66 #[.agg #[.int .i64 (n : Int), .slice A G.length c], .slice Bs s.length cs, .int .i64 2] w (RetTL (dutL n G s 2) w) := by
  have hn := hv.1.1
  have hGl : G.length ≤ 100000 := hv.1.2.1
  obtain ⟨hsr, hm⟩ := setB_mask hn hst
  have hls := setB_len hst
  have hof := fun w hs => enOf_any Bs s cs w hs (by omega) hsr
  have hnew := fun w hr => netNew_any A n G c w hr hv.1
  have Hof := Lib.hid hof; have Hnew := Lib.hid hnew; have Hv := Lib.hid hv; have Hm := Lib.hid hm; have Hsr := Lib.hid hsr
  clear hof hnew hsr hst
  go_enter Tryd.func66, Tryd.ntmps66
  go_upto_region 1 with fail
  obtain ⟨W0, hW, k0, hb0, hs0'⟩ := boxG w (n : Int) A G.length c
  rw [hW]
  have hr0 := hr.below hb0
  have hs0 := hs.below hb0
  have hT0 := hT.below hb0
  obtain ⟨d0, d1, _, _⟩ := k0.two
  clear hW
  go_cut [7, 8] (fun a b wx => ∃ q gB gO, a = .int .u64 ((maskN s : Nat) : Int) ∧ b = .pointer (some ⟨q, 0, none⟩) ∧ W0.heap.size ≤ q ∧ Blk wx q 97 #[.int .u64 ((allN n : Nat) : Int), .slice (some ⟨gB, 0, none⟩) n n, .slice (some ⟨gO, 0, none⟩) n n] ∧ NetR wx n G (some ⟨gB, 0, none⟩) (some ⟨gO, 0, none⟩) ∧ Below W0.heap.size W0 wx)
  case first =>
    refine wp_region_tree [1, 3, 4, 6] (fun w' => Below W0.heap.size W0 w') (fun w' => NtC n G none w' ∧ BxC 97 #[.int .u64 0, .slice none 0 0, .slice none 0 0] none W0.heap.size w' ∧ NqD n none none) 7 [0, 1, 2, 3, 4, 5, 6] (by rfl) (by decide) (by kernel_rfl) (by kernel_rfl) (Below.refl _ _).drew ⟨NtC.no, BxC.no, NqD.no1⟩ ?_
    refine TxtT.pure 0 (by rfl) (by rw [List.getElem?_toArray]; rfl) (by rfl) (by as_aux_lemma => kernel_rfl) (by rfl) ?_; apply Exists.intro; refine ⟨fun w1 hS1 => ?_, ?_⟩; (focus (skip; go_simp; with_reducible rfl))
    rw [show List.erase [0, 1, 2, 3, 4, 5, 6] 0 = [1, 2, 3, 4, 5, 6] from rfl]; simp only [Act.put, List.setIfInBounds_toArray, List.set_cons_zero, List.set_cons_succ]
    refine TxtT.pure 2 (by rfl) (by rw [List.getElem?_toArray]; rfl) (by rfl) (by as_aux_lemma => kernel_rfl) (by rfl) ?_; apply Exists.intro; refine ⟨fun w1 hS1 => ?_, ?_⟩; (focus ((have g0 := (hS1.cell (lt_of_cell d0)).trans d0; have g1 := (hS1.cell (lt_of_cell d1)).trans d1); go_simp; with_reducible rfl))
    rw [show List.erase [1, 2, 3, 4, 5, 6] 2 = [1, 3, 4, 5, 6] from rfl]; simp only [Act.put, List.setIfInBounds_toArray, List.set_cons_zero, List.set_cons_succ]
    refine TxtT.two 1 4 (by as_aux_lemma => kernel_rfl) (by rw [List.getElem?_toArray]; rfl) (by rw [List.getElem?_toArray]; rfl) (by rfl) (by rfl) (by rfl) (by rfl) (fun v => v = Value.int .u64 ((maskN s : Nat) : Int)) (fun _ w' => NtC n G none w' ∧ BxC 97 #[.int .u64 0, .slice none 0 0, .slice none 0 0] none W0.heap.size w' ∧ NqD n none none) (fun v => ∃ q, v = Value.pointer (some ⟨q, 0, none⟩)) (fun v w' => ∃ q, v = Value.pointer (some ⟨q, 0, none⟩) ∧ NtC n G none w' ∧ BxC 97 #[.int .u64 0, .slice none 0 0, .slice none 0 0] (some q) W0.heap.size w' ∧ NqD n none (some q)) (fun w1 hS1 hJ1 => ?_) (fun w1 hS1 hJ1 => ?_) ?_ ?_
    · refine Eff.call (f := 62) (args := #[.slice Bs s.length cs]) (by go_simp) ((Hof.out w1 (hs0.below hS1)).mono ?_)
      rintro e w' ⟨rfl, rfl⟩
      exact ⟨_, rfl, hS1, rfl, hJ1⟩
    · exact Eff.value (w' := w1.alloc (.cells #[.int .u64 0, .slice none 0 0, .slice none 0 0] 97)) (v := .pointer (some ⟨w1.heap.size, 0, none⟩)) (by go_simp) ⟨hS1.trans ((newB w1 _).mono hS1.size), ⟨_, rfl⟩, _, rfl, hJ1.1.below (newB w1 _), BxC.new hS1.size, hJ1.1.fresh⟩
    ·
      rintro _ rfl
      rw [show List.erase [1, 3, 4, 5, 6] 1 = [3, 4, 5, 6] from rfl]; simp only [Act.put, List.setIfInBounds_toArray, List.set_cons_zero, List.set_cons_succ]
      refine TxtT.two 3 4 (by as_aux_lemma => kernel_rfl) (by rw [List.getElem?_toArray]; rfl) (by rw [List.getElem?_toArray]; rfl) (by rfl) (by rfl) (by rfl) (by rfl) (fun v => ∃ gB gO, v = Value.agg #[.int .u64 ((allN n : Nat) : Int), .slice (some ⟨gB, 0, none⟩) n n, .slice (some ⟨gO, 0, none⟩) n n]) (fun v w' => ∃ gB gO, v = Value.agg #[.int .u64 ((allN n : Nat) : Int), .slice (some ⟨gB, 0, none⟩) n n, .slice (some ⟨gO, 0, none⟩) n n] ∧ NtC n G (some (gB, gO)) w' ∧ BxC 97 #[.int .u64 0, .slice none 0 0, .slice none 0 0] none W0.heap.size w' ∧ NqD n (some (gB, gO)) none) (fun v => ∃ q, v = Value.pointer (some ⟨q, 0, none⟩)) (fun v w' => ∃ q, v = Value.pointer (some ⟨q, 0, none⟩) ∧ NtC n G none w' ∧ BxC 97 #[.int .u64 0, .slice none 0 0, .slice none 0 0] (some q) W0.heap.size w' ∧ NqD n none (some q)) (fun w1 hS1 hJ1 => ?_) (fun w1 hS1 hJ1 => ?_) ?_ ?_
      · refine Eff.call (f := 63) (args := #[.agg #[.int .i64 (n : Int), .slice A G.length c]]) (by go_simp) ((Hnew.out w1 (hr0.below hS1)).mono ?_)
        rintro e w' ⟨gB, gO, rfl, hgB, hgO, hrb, hro, hb⟩
        exact ⟨_, rfl, hS1.trans (hb.mono hS1.size), ⟨gB, gO, rfl⟩, gB, gO, rfl, (fun q e => by injection e with e; subst e; exact ⟨hrb, hro⟩), hJ1.2.1.below hb, (fun g q e1 e2 _ => by injection e1 with e1; subst e1; have := (hJ1.2.1 q e2).2.lt; simp only; omega)⟩
      · exact Eff.value (w' := w1.alloc (.cells #[.int .u64 0, .slice none 0 0, .slice none 0 0] 97)) (v := .pointer (some ⟨w1.heap.size, 0, none⟩)) (by go_simp) ⟨hS1.trans ((newB w1 _).mono hS1.size), ⟨_, rfl⟩, _, rfl, hJ1.1.below (newB w1 _), BxC.new hS1.size, hJ1.1.fresh⟩
      ·
        rintro _ ⟨gB, gO, rfl⟩
        rw [show List.erase [3, 4, 5, 6] 3 = [4, 5, 6] from rfl]; simp only [Act.put, List.setIfInBounds_toArray, List.set_cons_zero, List.set_cons_succ]
        refine TxtT.weakJ (J2 := fun w' => NtC n G (some (gB, gO)) w' ∧ BxC 97 #[.int .u64 0, .slice none 0 0, .slice none 0 0] none W0.heap.size w' ∧ NqD n (some (gB, gO)) none) (fun w1 h => by obtain ⟨x, y, hq, h⟩ := h; simp only [Value.agg.injEq, Array.mk.injEq, List.cons.injEq, Value.slice.injEq, Option.some.injEq, Addr.mk.injEq, and_true, true_and] at hq; obtain ⟨hq1, hq2⟩ := hq; subst hq1; subst hq2; exact h) ?_
        refine TxtT.one 4 (by as_aux_lemma => kernel_rfl) (by rw [List.getElem?_toArray]; rfl) (by rfl) (by rfl) (fun v => ∃ q, v = Value.pointer (some ⟨q, 0, none⟩)) (fun v w' => ∃ q, v = Value.pointer (some ⟨q, 0, none⟩) ∧ NtC n G (some (gB, gO)) w' ∧ BxC 97 #[.int .u64 0, .slice none 0 0, .slice none 0 0] (some q) W0.heap.size w' ∧ NqD n (some (gB, gO)) (some q)) (fun w1 hS1 hJ1 => ?_) ?_
        · exact Eff.value (w' := w1.alloc (.cells #[.int .u64 0, .slice none 0 0, .slice none 0 0] 97)) (v := .pointer (some ⟨w1.heap.size, 0, none⟩)) (by go_simp) ⟨hS1.trans ((newB w1 _).mono hS1.size), ⟨_, rfl⟩, _, rfl, hJ1.1.below (newB w1 _), BxC.new hS1.size, hJ1.1.fresh⟩
        rintro _ ⟨q, rfl⟩
        rw [show List.erase [4, 5, 6] 4 = [5, 6] from rfl]; simp only [Act.put, List.setIfInBounds_toArray, List.set_cons_zero, List.set_cons_succ]
        refine TxtT.weakJ (J2 := fun w' => NtC n G (some (gB, gO)) w' ∧ BxC 97 #[.int .u64 0, .slice none 0 0, .slice none 0 0] (some q) W0.heap.size w' ∧ NqD n (some (gB, gO)) (some q)) (fun w1 h => by obtain ⟨q', hq, h⟩ := h; injection hq with hq; injection hq with hq; injection hq with hq _ _; subst hq; exact h) ?_
        refine TxtT.pure 5 (by rfl) (by rw [List.getElem?_toArray]; rfl) (by rfl) (by as_aux_lemma => kernel_rfl) (by rfl) ?_; apply Exists.intro; refine ⟨fun w1 hS1 => ?_, ?_⟩; (focus (skip; go_simp; with_reducible rfl))
        rw [show List.erase [5, 6] 5 = [6] from rfl]; simp only [Act.put, List.setIfInBounds_toArray, List.set_cons_zero, List.set_cons_succ]
        refine TxtT.one 6 (by as_aux_lemma => kernel_rfl) (by rw [List.getElem?_toArray]; rfl) (by rfl) (by rfl) (fun v => v = undef) (fun _ w' => NetR w' n G (some ⟨gB, 0, none⟩) (some ⟨gO, 0, none⟩) ∧ W0.heap.size ≤ q ∧ Blk w' q 97 #[.int .u64 ((allN n : Nat) : Int), .slice (some ⟨gB, 0, none⟩) n n, .slice (some ⟨gO, 0, none⟩) n n]) (fun w1 hS1 hJ1 => ?_) ?_
        · obtain ⟨hq, hk4⟩ := hJ1.2.1 q rfl
          have hnr := hJ1.1 (gB, gO) rfl; have hqd := hJ1.2.2 (gB, gO) q rfl rfl
          have z0 := hk4.frozen 0; have z1 := hk4.frozen 1; have z2 := hk4.frozen 2
          have hst := ((hk4.set_ 0 (.int .u64 ((allN n : Nat) : Int))).set_ 1 (.slice (some ⟨gB, 0, none⟩) n n)).set_ 2 (.slice (some ⟨gO, 0, none⟩) n n)
          have y0 : w1.cell? ⟨q, 0, none⟩ = some (.int .u64 0) := hk4.cell 0; have y1 : w1.cell? ⟨q, 1, none⟩ = some (.slice none 0 0) := hk4.cell 1; have y2 : w1.cell? ⟨q, 2, none⟩ = some (.slice none 0 0) := hk4.cell 2
          exact Eff.skip (w' := ((w1.setCell ⟨q, 0, none⟩ (.int .u64 ((allN n : Nat) : Int))).setCell ⟨q, 1, none⟩ (.slice (some ⟨gB, 0, none⟩) n n)).setCell ⟨q, 2, none⟩ (.slice (some ⟨gO, 0, none⟩) n n)) (by go_simp) ⟨((hS1.setCell (p := ⟨q, 0, none⟩) hq _).setCell (p := ⟨q, 1, none⟩) hq _).setCell (p := ⟨q, 2, none⟩) hq _, rfl, ((hnr.farQ hqd 0 _).farQ hqd 1 _).farQ hqd 2 _, hq, hst⟩
        rintro _ rfl
        rw [show List.erase [6] 6 = [] from rfl]; simp only [Act.put]
        refine ⟨rfl, fun w1 hS1 hJ1 => ?_⟩
        go_wp2_with fail
        go_meet
        exact ⟨q, gB, gO, rfl, rfl, hJ1.2.1, hJ1.2.2, hJ1.1, hS1⟩
      ·
        rintro _ ⟨q, rfl⟩
        rw [show List.erase [3, 4, 5, 6] 4 = [3, 5, 6] from rfl]; simp only [Act.put, List.setIfInBounds_toArray, List.set_cons_zero, List.set_cons_succ]
        refine TxtT.weakJ (J2 := fun w' => NtC n G none w' ∧ BxC 97 #[.int .u64 0, .slice none 0 0, .slice none 0 0] (some q) W0.heap.size w' ∧ NqD n none (some q)) (fun w1 h => by obtain ⟨q', hq, h⟩ := h; injection hq with hq; injection hq with hq; injection hq with hq _ _; subst hq; exact h) ?_
        refine TxtT.one 3 (by as_aux_lemma => kernel_rfl) (by rw [List.getElem?_toArray]; rfl) (by rfl) (by rfl) (fun v => ∃ gB gO, v = Value.agg #[.int .u64 ((allN n : Nat) : Int), .slice (some ⟨gB, 0, none⟩) n n, .slice (some ⟨gO, 0, none⟩) n n]) (fun v w' => ∃ gB gO, v = Value.agg #[.int .u64 ((allN n : Nat) : Int), .slice (some ⟨gB, 0, none⟩) n n, .slice (some ⟨gO, 0, none⟩) n n] ∧ NtC n G (some (gB, gO)) w' ∧ BxC 97 #[.int .u64 0, .slice none 0 0, .slice none 0 0] (some q) W0.heap.size w' ∧ NqD n (some (gB, gO)) (some q)) (fun w1 hS1 hJ1 => ?_) ?_
        · refine Eff.call (f := 63) (args := #[.agg #[.int .i64 (n : Int), .slice A G.length c]]) (by go_simp) ((Hnew.out w1 (hr0.below hS1)).mono ?_)
          rintro e w' ⟨gB, gO, rfl, hgB, hgO, hrb, hro, hb⟩
          exact ⟨_, rfl, hS1.trans (hb.mono hS1.size), ⟨gB, gO, rfl⟩, gB, gO, rfl, (fun q e => by injection e with e; subst e; exact ⟨hrb, hro⟩), hJ1.2.1.below hb, (fun g q e1 e2 _ => by injection e1 with e1; subst e1; have := (hJ1.2.1 q e2).2.lt; simp only; omega)⟩
        rintro _ ⟨gB, gO, rfl⟩
        rw [show List.erase [3, 5, 6] 3 = [5, 6] from rfl]; simp only [Act.put, List.setIfInBounds_toArray, List.set_cons_zero, List.set_cons_succ]
        refine TxtT.weakJ (J2 := fun w' => NtC n G (some (gB, gO)) w' ∧ BxC 97 #[.int .u64 0, .slice none 0 0, .slice none 0 0] (some q) W0.heap.size w' ∧ NqD n (some (gB, gO)) (some q)) (fun w1 h => by obtain ⟨x, y, hq, h⟩ := h; simp only [Value.agg.injEq, Array.mk.injEq, List.cons.injEq, Value.slice.injEq, Option.some.injEq, Addr.mk.injEq, and_true, true_and] at hq; obtain ⟨hq1, hq2⟩ := hq; subst hq1; subst hq2; exact h) ?_
        refine TxtT.pure 5 (by rfl) (by rw [List.getElem?_toArray]; rfl) (by rfl) (by as_aux_lemma => kernel_rfl) (by rfl) ?_; apply Exists.intro; refine ⟨fun w1 hS1 => ?_, ?_⟩; (focus (skip; go_simp; with_reducible rfl))
        rw [show List.erase [5, 6] 5 = [6] from rfl]; simp only [Act.put, List.setIfInBounds_toArray, List.set_cons_zero, List.set_cons_succ]
        refine TxtT.one 6 (by as_aux_lemma => kernel_rfl) (by rw [List.getElem?_toArray]; rfl) (by rfl) (by rfl) (fun v => v = undef) (fun _ w' => NetR w' n G (some ⟨gB, 0, none⟩) (some ⟨gO, 0, none⟩) ∧ W0.heap.size ≤ q ∧ Blk w' q 97 #[.int .u64 ((allN n : Nat) : Int), .slice (some ⟨gB, 0, none⟩) n n, .slice (some ⟨gO, 0, none⟩) n n]) (fun w1 hS1 hJ1 => ?_) ?_
        · obtain ⟨hq, hk4⟩ := hJ1.2.1 q rfl
          have hnr := hJ1.1 (gB, gO) rfl; have hqd := hJ1.2.2 (gB, gO) q rfl rfl
          have z0 := hk4.frozen 0; have z1 := hk4.frozen 1; have z2 := hk4.frozen 2
          have hst := ((hk4.set_ 0 (.int .u64 ((allN n : Nat) : Int))).set_ 1 (.slice (some ⟨gB, 0, none⟩) n n)).set_ 2 (.slice (some ⟨gO, 0, none⟩) n n)
          have y0 : w1.cell? ⟨q, 0, none⟩ = some (.int .u64 0) := hk4.cell 0; have y1 : w1.cell? ⟨q, 1, none⟩ = some (.slice none 0 0) := hk4.cell 1; have y2 : w1.cell? ⟨q, 2, none⟩ = some (.slice none 0 0) := hk4.cell 2
          exact Eff.skip (w' := ((w1.setCell ⟨q, 0, none⟩ (.int .u64 ((allN n : Nat) : Int))).setCell ⟨q, 1, none⟩ (.slice (some ⟨gB, 0, none⟩) n n)).setCell ⟨q, 2, none⟩ (.slice (some ⟨gO, 0, none⟩) n n)) (by go_simp) ⟨((hS1.setCell (p := ⟨q, 0, none⟩) hq _).setCell (p := ⟨q, 1, none⟩) hq _).setCell (p := ⟨q, 2, none⟩) hq _, rfl, ((hnr.farQ hqd 0 _).farQ hqd 1 _).farQ hqd 2 _, hq, hst⟩
        rintro _ rfl
        rw [show List.erase [6] 6 = [] from rfl]; simp only [Act.put]
        refine ⟨rfl, fun w1 hS1 hJ1 => ?_⟩
        go_wp2_with fail
        go_meet
        exact ⟨q, gB, gO, rfl, rfl, hJ1.2.1, hJ1.2.2, hJ1.1, hS1⟩
    ·
      rintro _ ⟨q, rfl⟩
      rw [show List.erase [1, 3, 4, 5, 6] 4 = [1, 3, 5, 6] from rfl]; simp only [Act.put, List.setIfInBounds_toArray, List.set_cons_zero, List.set_cons_succ]
      refine TxtT.weakJ (J2 := fun w' => NtC n G none w' ∧ BxC 97 #[.int .u64 0, .slice none 0 0, .slice none 0 0] (some q) W0.heap.size w' ∧ NqD n none (some q)) (fun w1 h => by obtain ⟨q', hq, h⟩ := h; injection hq with hq; injection hq with hq; injection hq with hq _ _; subst hq; exact h) ?_
      refine TxtT.one 1 (by as_aux_lemma => kernel_rfl) (by rw [List.getElem?_toArray]; rfl) (by rfl) (by rfl) (fun v => v = Value.int .u64 ((maskN s : Nat) : Int)) (fun _ w' => NtC n G none w' ∧ BxC 97 #[.int .u64 0, .slice none 0 0, .slice none 0 0] (some q) W0.heap.size w' ∧ NqD n none (some q)) (fun w1 hS1 hJ1 => ?_) ?_
      · refine Eff.call (f := 62) (args := #[.slice Bs s.length cs]) (by go_simp) ((Hof.out w1 (hs0.below hS1)).mono ?_)
        rintro e w' ⟨rfl, rfl⟩
        exact ⟨_, rfl, hS1, rfl, hJ1⟩
      rintro _ rfl
      rw [show List.erase [1, 3, 5, 6] 1 = [3, 5, 6] from rfl]; simp only [Act.put, List.setIfInBounds_toArray, List.set_cons_zero, List.set_cons_succ]
      refine TxtT.one 3 (by as_aux_lemma => kernel_rfl) (by rw [List.getElem?_toArray]; rfl) (by rfl) (by rfl) (fun v => ∃ gB gO, v = Value.agg #[.int .u64 ((allN n : Nat) : Int), .slice (some ⟨gB, 0, none⟩) n n, .slice (some ⟨gO, 0, none⟩) n n]) (fun v w' => ∃ gB gO, v = Value.agg #[.int .u64 ((allN n : Nat) : Int), .slice (some ⟨gB, 0, none⟩) n n, .slice (some ⟨gO, 0, none⟩) n n] ∧ NtC n G (some (gB, gO)) w' ∧ BxC 97 #[.int .u64 0, .slice none 0 0, .slice none 0 0] (some q) W0.heap.size w' ∧ NqD n (some (gB, gO)) (some q)) (fun w1 hS1 hJ1 => ?_) ?_
      · refine Eff.call (f := 63) (args := #[.agg #[.int .i64 (n : Int), .slice A G.length c]]) (by go_simp) ((Hnew.out w1 (hr0.below hS1)).mono ?_)
        rintro e w' ⟨gB, gO, rfl, hgB, hgO, hrb, hro, hb⟩
        exact ⟨_, rfl, hS1.trans (hb.mono hS1.size), ⟨gB, gO, rfl⟩, gB, gO, rfl, (fun q e => by injection e with e; subst e; exact ⟨hrb, hro⟩), hJ1.2.1.below hb, (fun g q e1 e2 _ => by injection e1 with e1; subst e1; have := (hJ1.2.1 q e2).2.lt; simp only; omega)⟩
      rintro _ ⟨gB, gO, rfl⟩
      rw [show List.erase [3, 5, 6] 3 = [5, 6] from rfl]; simp only [Act.put, List.setIfInBounds_toArray, List.set_cons_zero, List.set_cons_succ]
      refine TxtT.weakJ (J2 := fun w' => NtC n G (some (gB, gO)) w' ∧ BxC 97 #[.int .u64 0, .slice none 0 0, .slice none 0 0] (some q) W0.heap.size w' ∧ NqD n (some (gB, gO)) (some q)) (fun w1 h => by obtain ⟨x, y, hq, h⟩ := h; simp only [Value.agg.injEq, Array.mk.injEq, List.cons.injEq, Value.slice.injEq, Option.some.injEq, Addr.mk.injEq, and_true, true_and] at hq; obtain ⟨hq1, hq2⟩ := hq; subst hq1; subst hq2; exact h) ?_
      refine TxtT.pure 5 (by rfl) (by rw [List.getElem?_toArray]; rfl) (by rfl) (by as_aux_lemma => kernel_rfl) (by rfl) ?_; apply Exists.intro; refine ⟨fun w1 hS1 => ?_, ?_⟩; (focus (skip; go_simp; with_reducible rfl))
      rw [show List.erase [5, 6] 5 = [6] from rfl]; simp only [Act.put, List.setIfInBounds_toArray, List.set_cons_zero, List.set_cons_succ]
      refine TxtT.one 6 (by as_aux_lemma => kernel_rfl) (by rw [List.getElem?_toArray]; rfl) (by rfl) (by rfl) (fun v => v = undef) (fun _ w' => NetR w' n G (some ⟨gB, 0, none⟩) (some ⟨gO, 0, none⟩) ∧ W0.heap.size ≤ q ∧ Blk w' q 97 #[.int .u64 ((allN n : Nat) : Int), .slice (some ⟨gB, 0, none⟩) n n, .slice (some ⟨gO, 0, none⟩) n n]) (fun w1 hS1 hJ1 => ?_) ?_
      · obtain ⟨hq, hk4⟩ := hJ1.2.1 q rfl
        have hnr := hJ1.1 (gB, gO) rfl; have hqd := hJ1.2.2 (gB, gO) q rfl rfl
        have z0 := hk4.frozen 0; have z1 := hk4.frozen 1; have z2 := hk4.frozen 2
        have hst := ((hk4.set_ 0 (.int .u64 ((allN n : Nat) : Int))).set_ 1 (.slice (some ⟨gB, 0, none⟩) n n)).set_ 2 (.slice (some ⟨gO, 0, none⟩) n n)
        have y0 : w1.cell? ⟨q, 0, none⟩ = some (.int .u64 0) := hk4.cell 0; have y1 : w1.cell? ⟨q, 1, none⟩ = some (.slice none 0 0) := hk4.cell 1; have y2 : w1.cell? ⟨q, 2, none⟩ = some (.slice none 0 0) := hk4.cell 2
        exact Eff.skip (w' := ((w1.setCell ⟨q, 0, none⟩ (.int .u64 ((allN n : Nat) : Int))).setCell ⟨q, 1, none⟩ (.slice (some ⟨gB, 0, none⟩) n n)).setCell ⟨q, 2, none⟩ (.slice (some ⟨gO, 0, none⟩) n n)) (by go_simp) ⟨((hS1.setCell (p := ⟨q, 0, none⟩) hq _).setCell (p := ⟨q, 1, none⟩) hq _).setCell (p := ⟨q, 2, none⟩) hq _, rfl, ((hnr.farQ hqd 0 _).farQ hqd 1 _).farQ hqd 2 _, hq, hst⟩
      rintro _ rfl
      rw [show List.erase [6] 6 = [] from rfl]; simp only [Act.put]
      refine ⟨rfl, fun w1 hS1 hJ1 => ?_⟩
      go_wp2_with fail
      go_meet
      exact ⟨q, gB, gO, rfl, rfl, hJ1.2.1, hJ1.2.2, hJ1.1, hS1⟩
  case rest =>
  obtain ⟨q, gB, gO, rfl, rfl, hq0, kN, hnr, hbc⟩ := hcut
  have hb1 := endB hb0 hbc
  have k1 := k0.below hbc k0.lt
  have hmu := u64_of hn Hm.out
  clear d0 d1 hr0 hs0 hT0 Hof Hnew hbc hq0 k0 hb0
  obtain ⟨d0, d1, _, _⟩ := k1.two
  go_wp2_with fail
  go_loopw [9, 26] (fun v i wr => ∃ (k : Nat) (xs : List Value), k ≤ G.length ∧ i = .int .i64 k ∧ OwnTS wr wc.heap.size v xs ∧ OwnTL wr wc.heap.size xs (dutA (maskN s) (G.take k)) ∧ Below wc.heap.size wc wr) (fun _ i _ => G.length - (intOf i).toNat)
  case atStart => exact ⟨0, [], Nat.zero_le _, rfl, OwnTS.nil _ _, OwnTL.nil _ _, Below.refl _ _⟩
  case round =>
    clear d0 d1
    obtain ⟨k, xs, hk, rfl, hown, htl, hbw⟩ := hrel
    have hxl : xs.length ≤ 100000 := by
      have h1 := htl.1; have h2 := dutA_len (maskN s) (G.take k); have := Hv.out.1.2.1; rw [List.length_take] at h2; omega
    have Hown := Lib.hid hown; have Htl := Lib.hid htl
    clear hown htl
    have hbX := endB hb1 hbw
    by_cases hlt : k < G.length
    case pos => --dev
      obtain ⟨b, o, rfl, hc, hd⟩ := (hr.below hbX).at_ hlt
      have hpin := Hv.out.1.2.2 _ (List.getElem_mem hlt)
      obtain ⟨x, hx⟩ : ∃ x : Nat, G[k].1 = (x : Int) := ⟨G[k].1.toNat, by omega⟩
      obtain ⟨y, hy⟩ : ∃ y : Nat, G[k].2 = (y : Int) := ⟨G[k].2.toNat, by omega⟩
      have hx64 : x < 64 := by omega
      have hy64 : y < 64 := by omega
      rw [hx] at hc; rw [hy] at hd
      obtain ⟨W4, hW4, e0, e1, hb4, hlt4⟩ := boxed wr 42 (.int .i64 (x : Int)) (.int .i64 (y : Int))
      have hstep := dutA_step (m := maskN s) hlt
      rw [hx, hy, Int.toNat_natCast, Int.toNat_natCast] at hstep
      have hpe : G[k] = ((x : Int), (y : Int)) := Prod.ext hx hy
      have hh1 := netHas_any (maskN s) x hmu hx64
      have hh2 := netHas_any (maskN s) y hmu hy64
      have Hh1 := Lib.hid hh1; have Hh2 := Lib.hid hh2; have Hstep := Lib.hid hstep; have Hpe := Lib.hid hpe
      have hbw4 := hbw.trans (hb4.mono hbw.size)
      have Hown4 := Lib.hid (ownsRow_below Hown.out hb4 : OwnTS W4 wc.heap.size _ xs)
      have Htl4 := Lib.hid (Htl.out.below hb4)
      clear hh1 hh2 hstep hpe hx hy hpin hx64 hy64
      go_wp2_with fail
      refine (Hh1.out _).mono ?_
      rintro e w' ⟨rfl, rfl⟩
      cases hbx : (maskN s).testBit x
      case false =>
        have hst := Hstep.out
        rw [hbx, Bool.false_and, if_neg (by decide)] at hst
        have Hst := Lib.hid hst
        clear hst
        go_wp2_with fail
        go_roundw
        case rel => exact ⟨k + 1, xs, hlt, by go_num, Hown4.out, Hst.out ▸ Htl4.out, hbw4⟩
        case measure => simp [intOf]; omega
      case true =>
        go_wp2_with fail
        refine (Hh2.out _).mono ?_
        rintro e w' ⟨rfl, rfl⟩
        cases hby : (maskN s).testBit y
        case false =>
          have hst := Hstep.out
          rw [hbx, hby, Bool.and_false, if_neg (by decide)] at hst
          have Hst := Lib.hid hst
          clear hst
          go_wp2_with fail
          go_roundw
          case rel => exact ⟨k + 1, xs, hlt, by go_num, Hown4.out, Hst.out ▸ Htl4.out, hbw4⟩
          case measure => simp [intOf]; omega
        case true =>
          have hst := Hstep.out
          rw [hbx, hby, Bool.and_true, if_pos rfl] at hst
          have Hst := Lib.hid hst
          clear hst
          obtain ⟨W5, hW5, hone, hb5, hs5⟩ : ∃ W5, W4.alloc (.cells #[.int .i64 (x : Int), .int .i64 (y : Int)] 42) = W5 ∧ OwnP W5 wc.heap.size (.slice (some ⟨W4.heap.size, 0, none⟩) 1 1) [((x : Int), (y : Int))] ∧ Below W4.heap.size W4 W5 ∧ W5.heap.size = W4.heap.size + 1 :=
            ⟨_, rfl, own_oneP W4 ((x : Int), (y : Int)) _ hbw4.size, newB _ _, by simp⟩
          have Hown5 := Lib.hid (ownsRow_below Hown4.out hb5 : OwnTS W5 wc.heap.size _ xs)
          have Htl5 := Lib.hid ((Htl4.out.below hb5).snoc (c := 1) (RPt.of_own (c := 1) (l := [((x : Int), (y : Int))]) hone))
          have hbw5 := hbw4.trans (hb5.mono hbw4.size)
          have hD5 := hbw5.size
          clear hb5 hone
          go_wp2_with (at_builtin; go_loud (refine wpList_appT (by rfl) _ _ (by rfl) W5 wc.heap.size _ xs (some ⟨W4.heap.size, 0, none⟩) 1 1 Hown5.out (by rfl) (by rfl) (by omega) (by omega) hD5 ?_); intro v' w6 hown6 hb6 hg6; have Hown6 := Lib.hid hown6; clear hown6)
          go_roundw
          case rel => exact ⟨k + 1, _, hlt, by go_num, Hown6.out, by rw [Hst.out, Hpe.out]; exact Htl5.out.append Hown5.out hg6, hbw5.trans hb6⟩
          case measure => simp [intOf]; omega
    case neg =>
    have hfull : G.take k = G := List.take_of_length_le (by omega)
    have htl := Htl.out
    rw [hfull] at htl
    have Htl := Lib.hid htl
    clear htl hfull
    have kN1 := kN.below hbw kN.lt
    have k11 := k1.below hbw k1.lt
    obtain ⟨n0, n1, n2, _, _⟩ := kN1.threeE
    obtain ⟨d0, d1, _, _⟩ := k11.two
    have hnr1 := hnr.below hbw
    go_wp2_with fail
    refine (netHitS_any Hv.out.1 Hm.out _ _ wr (hT.below hbX) hnr1).mono ?_
    rintro e w2 ⟨rfl, hb2⟩
    have hbw2 := hbw.trans (hb2.mono hbw.size)
    have Hown2 := Lib.hid (ownsRow_below Hown.out hb2 : OwnTS w2 wc.heap.size _ xs)
    have Htl2 := Lib.hid (Htl.out.below hb2)
    have hhu : hitM n G (maskN s) < 18446744073709551616 := (orN_lt64 Hv.out.1 (maskN s)).1
    rw [show orN (outL n G) (nodesB 64 (maskN s).testBit) = hitM n G (maskN s) from rfl]
    have k12 := k1.below hbw2 k1.lt
    clear n0 n1 n2 d0 d1 hb2 hbw hnr1 Hown Htl hbX k11 kN1
    obtain ⟨d0, d1, _, _⟩ := k12.two
    go_wp2_with fail
    go_loopw [9, 51] (fun v i wr => ∃ (k : Nat) (xs : List Value), k ≤ n ∧ i = .int .i64 k ∧ OwnTS wr wc.heap.size v xs ∧ OwnTL wr wc.heap.size xs (dutA (maskN s) G ++ dutB n G s 2 k) ∧ Below wc.heap.size wc wr) (fun _ i _ => n - (intOf i).toNat)
    case atStart => exact ⟨0, xs, Nat.zero_le _, rfl, Hown2.out, by simpa [dutB] using Htl2.out, hbw2⟩
    case round =>
      clear Hown2 Htl2 hbw2 d0 d1 k12 hxl
      obtain ⟨a, ys, ha, rfl, hown, htl, hbw⟩ := hrel
      have hxl : ys.length ≤ 200000 := by
        have h1 := htl.1; rw [List.length_append] at h1
        have h2 := dutA_len (maskN s) G; have h3 := dutB_len n G s 2 a; have := Hv.out.1.2.1; omega
      have Hown := Lib.hid hown; have Htl := Lib.hid htl
      clear hown htl
      have hbX := endB hb1 hbw
      by_cases hlt : a < n
      case pos =>
        have ha64 : a < 64 := by omega
        have hh1 := netHas_any (maskN s) a hmu ha64
        have hh2 := netHas_any (hitM n G (maskN s)) a hhu ha64
        have hst := dutB_step (n := n) (G := G) (s := s) (kind := 2) (k := a)
        unfold dutO at hst
        have Hh1 := Lib.hid hh1; have Hh2 := Lib.hid hh2; have Hst := Lib.hid hst
        have hnr1 := hnr.below hbw
        have kN1 := kN.below hbw kN.lt
        obtain ⟨n0, n1, n2, _, _⟩ := kN1.threeE
        obtain ⟨b, o, hO, hoc⟩ := hnr1.o a (by rw [outL_length]; exact hlt)
        have hou : (outL n G).getD a 0 < 18446744073709551616 := by rw [outL_at hlt]; exact u64_of hn (mk_pow Hv.out.1 a)
        injection hO with hO; injection hO with hO1 hO2
        subst hO1 hO2
        rw [Nat.zero_add] at hoc
        obtain ⟨oa, hoa⟩ : ∃ oa, (outL n G).getD a 0 = oa := ⟨_, rfl⟩
        rw [hoa] at hoc hou hst
        have hand := u64_and_nat oa (maskN s) hou hmu
        obtain ⟨z, hz⟩ : ∃ z, oa &&& maskN s = z := ⟨_, rfl⟩
        have hzu : z < 18446744073709551616 := by rw [← hz]; exact Nat.lt_of_le_of_lt Nat.and_le_right hmu
        have hez : ((z : Int) == 0) = decide (z = 0) := by
          by_cases e : z = 0
          · subst e; rfl
          · rw [decide_eq_false e, beq_eq_false_iff_ne]; omega
        have hdp : dutP n G s 2 a = s.map (fun x => (x, (a : Int))) ++ [] := by unfold dutP; rw [hoa, hz]; rfl
        rw [hz] at hand hst
        have Hst := Lib.hid hst
        have Hdp := Lib.hid hdp
        have Hoa := Lib.hid hoa
        have Hand := Lib.hid hand
        have Hez := Lib.hid hez
        clear hh1 hh2 hst hz hand hez hdp hou hoa
        have i0 : (0 : Int) ≤ (a : Int) := by omega
        have i1 : (a : Int) < (n : Int) := by omega
        go_wp2_with fail
        refine (Hh1.out _).mono ?_
        rintro e w' ⟨rfl, rfl⟩
        cases hma : (maskN s).testBit a
        case true => --dev
          have hst := Hst.out
          rw [hma, Bool.not_true, Bool.false_and, if_neg (by decide)] at hst
          have Hs2 := Lib.hid hst
          clear hst n0 n1 n2 hoc
          go_wp2_with fail
          go_roundw
          case rel => exact ⟨a + 1, ys, hlt, by go_num, Hown.out, Hs2.out ▸ Htl.out, hbw⟩
          case measure => simp [intOf]; omega
        go_wp2_with fail
        refine (Hh2.out _).mono ?_
        rintro e w' ⟨rfl, rfl⟩
        cases hha : (hitM n G (maskN s)).testBit a
        case true => --dev
          have hst := Hst.out
          rw [hma, hha, Bool.not_true, Bool.false_and, Bool.and_false, if_neg (by decide)] at hst
          have Hs2 := Lib.hid hst
          clear hst n0 n1 n2 hoc
          go_wp2_with fail
          go_roundw
          case rel => exact ⟨a + 1, ys, hlt, by go_num, Hown.out, Hs2.out ▸ Htl.out, hbw⟩
          case measure => simp [intOf]; omega
        have hst := Hst.out
        rw [hma, hha] at hst
        simp only [Bool.not_false, Bool.true_and, Bool.false_and, if_true, show decide ((2 : Int) = 1) = false from rfl] at hst
        have Hs2 := Lib.hid hst
        clear hst
        go_wp2_with fail
        obtain ⟨E, hE⟩ : ∃ E, wr.heap.size = E := ⟨_, rfl⟩
        obtain ⟨wo, rfl⟩ : ∃ wo, wo = wr := ⟨_, rfl⟩
        clear n0 n1 n2 hoc
        --TR
        go_loopw [14, 78] (fun v i w3 => ∃ j : Nat, j ≤ s.length ∧ i = .int .i64 j ∧ OwnP w3 E v ((s.take j).map fun x => (x, (a : Int))) ∧ Below E wo w3) (fun _ i _ => s.length - (intOf i).toNat)
        case atStart => exact ⟨0, Nat.zero_le _, rfl, OwnP.nil _ _, Below.refl _ _⟩
        case round =>
          obtain ⟨j, hj, rfl, hown3, hb3⟩ := hrel
          have Hown3 := Lib.hid hown3
          clear hown3
          have hE3 : E ≤ wr.heap.size := by have := hb3.size; omega
          have hb3' : Below wo.heap.size wo wr := by rw [hE]; exact hb3
          by_cases hj2 : j < s.length
          case pos => --dev
            obtain ⟨b, o, rfl, hc⟩ := (hs.below (endB hbX hb3')).at_ hj2
            have hl6 : ((s.take j).map fun x => (x, (a : Int))).length ≤ 1000000 := by rw [List.length_map, List.length_take]; omega
            go_wp2_with (at_builtin; go_loud (refine wpList_appP2 (by rfl) _ _ (by rfl) wr E _ _ s[j] (a : Int) Hown3.out (by rfl) (by rfl) (by rfl) hl6 hE3 ?_); intro v' w5 hown5 hb5 hg5; have Hown5 := Lib.hid hown5; clear hown5)
            have e : ((s.take j).map fun x => (x, (a : Int))) ++ [(s[j], (a : Int))] = (s.take (j + 1)).map fun x => (x, (a : Int)) := by rw [List.take_succ_eq_append_getElem hj2, List.map_append]; rfl
            go_roundw
            case rel => exact ⟨j + 1, hj2, by go_num, e ▸ Hown5.out, hb3.trans hb5⟩
            case measure => simp [intOf]; omega
          case neg =>
          have hfull : s.take j = s := List.take_of_length_le (by omega)
          have hown3 := Hown3.out
          rw [hfull] at hown3
          have Hown3 := Lib.hid hown3
          clear hown3 hfull
          have hsl : (s.map fun x => (x, (a : Int))).length = s.length := List.length_map ..
          have hown3 := Hown3.out
          obtain ⟨L3, hL3⟩ : ∃ L3, (s.map fun x => (x, (a : Int))) = L3 := ⟨_, rfl⟩
          have hL3l : L3.length ≤ 1000 := by
            rw [← hL3]
            rw [List.length_map]; omega
          rw [hL3] at hown3
          have Hown3 := Lib.hid hown3; have HL3 := Lib.hid hL3
          clear hown3 hL3
          obtain ⟨AV, cV, hvv, _, _⟩ := Hown3.out.form
          subst hvv
          go_wp2_with fail
          refine (sortT_any Hown3.out (by omega)).mono ?_
          rintro e X ⟨rfl, hrt, hbS⟩
          have hbX2 : Below E wo X := hb3.trans hbS
          have hbX3 : Below wo.heap.size wo X := by rw [hE]; exact hbX2
          have HowX := Lib.hid (ownsRow_below Hown.out hbX3 : OwnTS X wc.heap.size _ ys)
          have HtlX := Lib.hid ((Htl.out.below hbX3).snoc (c := cV) (hrt.mono (by have := hbw.size; omega)))
          have hbwX := hbw.trans (hbX3.mono hbw.size)
          have hDX := hbwX.size
          have hle : L3.length = (srtP L3).length := (srtP_len _).symm
          have Hle := Lib.hid hle
          clear hle hrt hbS
          go_wp2_with (at_builtin; go_loud (refine wpList_appT (by rfl) _ _ (by rfl) X wc.heap.size _ ys AV L3.length cV HowX.out (by rfl) (by rfl) (by rfl) (by omega) hDX ?_); intro v' w6 hown6 hb6 hg6; have Hown6 := Lib.hid hown6; clear hown6)
          have hown7 := Hown6.out
          rw [Hle.out] at hown7
          have Hown7 := Lib.hid hown7
          clear hown7
          go_roundw
          case rel => exact ⟨a + 1, _, hlt, by go_num, Hown7.out, by rw [Hs2.out, Hdp.out, List.append_nil, HL3.out, ← List.append_assoc]; exact HtlX.out.append HowX.out hg6, hbwX.trans hb6⟩
          case measure => simp [intOf]; omega
      case neg =>
      obtain rfl : a = n := by omega
      obtain ⟨AF, cF, rfl, hrt, _⟩ := Hown.out.forms Htl.out
      go_wp2_with fail
      go_ret
      exact ⟨AF, cF, ys, rfl, ownsRow_mono Hown.out hb1.size, Htl.out.mono hb1.size, hrt, hbX⟩
end Go.Proofs.YtncimnfhfomddaaDoor
