/- awake30: in a chain of three nodes the proponent wins. (The region of four orders is printed by gen_awk.py.) -/
import Derived.Test.YthkknlnfdckdfaaGreatDoorRg
namespace Go.Proofs.YthkknlnfdckdfaaGreatDoor
open Go.ChangeShapes Go.WideShapes Go.ChangeAt Go.RowKit

def ll3 : List (Int × Int) := [((0 : Int), (1 : Int)), (1, 2)]
def rr3 : List Mv := [(1, 1, 2, 0), (2, 2, 1, 0), (1, 2, 0, 1)]
theorem ll3_len : ll3.length = 2 := rfl
theorem rr3_len : rr3.length = 3 := rfl
theorem allI3 : allI 3 = [0, 1, 2] := rfl
theorem rr3_eq : runG 9 9 ll3 (allI 3) (allI 3) 1 2 200 (clm 2) = rr3 := by rw [allI3]; decide +kernel
theorem rr3_end : endF 9 9 ll3 rr3 = (1, 1) := by decide +kernel
theorem vld3 : Vld 3 ll3 := by
  refine ⟨⟨by omega, by decide, ?_⟩, ?_⟩
  · intro p hp
    unfold ll3 at hp
    simp only [List.mem_cons, List.not_mem_nil, or_false] at hp
    rcases hp with rfl | rfl <;> simp
  · unfold ll3
    simp [ltP]
theorem play3 : PlayL 9 9 ll3 2 rr3 := by
  refine ⟨by decide, rfl, fun k h0 hk => ?_⟩
  rw [rr3_len] at hk
  have : k = 1 ∨ k = 2 := by omega
  rcases this with rfl | rfl
  · exact ⟨by decide +kernel, .inl (by decide +kernel)⟩
  · exact ⟨by decide +kernel, .inl (by decide +kernel)⟩
theorem own_ri {w : World} {m : Nat} {A : Option Addr} {l : List Int} {c : Nat} (h : OwnI w m (.slice A l.length c) l) : RI w A l := by
  obtain ⟨A', c', e', hr, _⟩ := OwnI.form h
  injection e' with e1 _ _
  rw [e1]; exact hr
theorem rp_lt {w : World} {A : Option Addr} {l : List (Int × Int)} (h : RP w A l) (h0 : 0 < l.length) : ∀ b o, A = some ⟨b, o, none⟩ → b < w.heap.size := fun b o e => by
  obtain ⟨b', o', e', h1, _⟩ := h 0 h0
  rw [e] at e'; injection e' with e'; injection e' with e1 _ _
  rw [e1]; exact lt_of_cell h1
theorem rm_lt {w : World} {A : Option Addr} {ms : List Mv} (h : RM w A ms) (h0 : 0 < ms.length) : ∀ b o, A = some ⟨b, o, none⟩ → b < w.heap.size := fun b o e => by
  obtain ⟨b', o', e', h1, _⟩ := h 0 h0
  rw [e] at e'; injection e' with e'; injection e' with e1 _ _
  rw [e1]; exact lt_of_cell h1
theorem pv3_inj {s : Int} {P P' : Option Addr} {pc pc' : Nat} (e : Value.agg #[.slice P 3 pc, .slice none 0 0, .slice none 0 0, .int .i64 s] = Value.agg #[.slice P' 3 pc', .slice none 0 0, .slice none 0 0, .int .i64 s]) : P = P' := by
  simp at e
  exact e.1
theorem tv3_inj {A A' M M' : Option Addr} {c c' cm cm' : Nat} (e : Value.tuple #[.agg #[.int .i64 3, .slice A 2 c, .int .i64 2, .int .i64 9, .int .i64 9, .slice M 3 cm], .int .i64 0] = Value.tuple #[.agg #[.int .i64 3, .slice A' 2 c', .int .i64 2, .int .i64 9, .int .i64 9, .slice M' 3 cm'], .int .i64 0]) : A = A' ∧ c = c' ∧ M = M' := by
  simp at e
  exact ⟨e.1.1, e.1.2, e.2.1⟩
/-- the box that was laid, if it was -/
def BxD (o : Option Nat) (m : Nat) (w : World) : Prop := ∀ q, o = some q → m ≤ q ∧ Blk w q 55 #[.int .i64 0, .slice none 0 0, .int .i64 0, .int .i64 0, .int .i64 0, .slice none 0 0]
theorem BxD.no {m : Nat} {w : World} : BxD Option.none m w := fun q e => by cases e
theorem BxD.new {m : Nat} {w : World} (h : m ≤ w.heap.size) : BxD (some w.heap.size) m (w.alloc (.cells #[.int .i64 0, .slice none 0 0, .int .i64 0, .int .i64 0, .int .i64 0, .slice none 0 0] 55)) := fun q e => by
  injection e with e; subst e; exact ⟨h, Blk.new _ _ _⟩
theorem BxD.below {o : Option Nat} {m : Nat} {w w' : World} (h : BxD o m w) (hb : Below w.heap.size w w') : BxD o m w' := fun q e => ⟨(h q e).1, (h q e).2.below hb (h q e).2.lt⟩
set_option maxRecDepth 100000 in
set_option maxHeartbeats 16000000 in
theorem awake30_any (w : World) : Calls Tryz.prog 7 #[] w (RetB (.bool true) w) := by
  go_enter Tryz.func7, Tryz.ntmps7
  go_upto_region 2 with fail
  obtain ⟨W0, hW, k0, k1, hb0, hs0⟩ := boxed2A w 43 27 #[.int .i64 0, .int .i64 1, .int .i64 1, .int .i64 2] #[.int .i64 3, .slice (some ⟨w.heap.size, 0, none⟩) 2 2]
  rw [hW]
  have hp0 : RP W0 (some ⟨w.heap.size, 0, none⟩) ll3 := Blk.pairs k0
  obtain ⟨z0, z1, _, _⟩ := k1.two
  clear hW k0 k1
  go_wp2_with fail
  refine (pnew_any 3 (some ⟨w.heap.size, 0, none⟩) ll3 2 2 9 9 W0 hp0 (fun e => by cases e) vld3 (by decide) (by decide) (by decide) (by decide) (by decide) (by decide)).mono ?_
  rintro e w1 ⟨A2, c2, M2, cm2, rfl, ho, hm, hb1⟩
  rw [clm_len, ll3_len]
  have z0 := (hb1.cell (lt_of_cell z0)).trans z0
  have z1 := (hb1.cell (lt_of_cell z1)).trans z1
  have hp1 := hp0.below hb1
  have hbb := hb0.trans (hb1.mono hb0.size)
  go_upto_region 3 with fail
  obtain ⟨W3, hW3, k2, hb2, hs2⟩ := boxedA w1 55 #[.int .i64 3, .slice A2 2 c2, .int .i64 2, .int .i64 9, .int .i64 9, .slice M2 1 cm2]
  rw [hW3]
  have z0 := (hb2.cell (lt_of_cell z0)).trans z0
  have z1 := (hb2.cell (lt_of_cell z1)).trans z1
  obtain ⟨d0, d1, d2, d3, d4, d5⟩ := dgC k2
  have Hp3 := Lib.hid (hp1.below hb2)
  have Hrp := Lib.hid (own_rp (ownsRow_below ho hb2)); have Hrm := Lib.hid (own_rm (hm.below hb2)).1; have Han := Lib.hid (own_nil ho)
  have Hbb := Lib.hid (hbb.trans (hb2.mono hbb.size))
  clear hW3 k2 hb2 hp1 hbb ho hm hb1 hb0 hp0
  go_cut [4, 5] (fun s4 s5 wx => ∃ q A3 c3 M3 cm3, s4 = Value.pointer (some ⟨q, 0, none⟩) ∧ s5 = Value.int .i64 0 ∧ W3.heap.size ≤ q ∧ Blk wx q 55 #[.int .i64 3, .slice A3 2 c3, .int .i64 2, .int .i64 9, .int .i64 9, .slice M3 3 cm3] ∧ RP wx A3 ll3 ∧ (A3 = none → ll3 = [] ∧ c3 = 0) ∧ RM wx M3 rr3 ∧ Below W3.heap.size W3 wx)
  case first =>
    refine wp_region_tree [2, 4, 5, 9, 10] (fun w' => Below W3.heap.size W3 w') (fun w' => BxD none W3.heap.size w') 12 [0, 1, 2, 3, 4, 5, 6, 7, 8, 9, 10, 11] (by rfl) (by decide) (by kernel_rfl) (by kernel_rfl) (Below.refl _ _).drew BxD.no ?_
    refine TxtT.pure 0 (by rfl) (by rw [List.getElem?_toArray]; rfl) (by rfl) (by as_aux_lemma => kernel_rfl) (by rfl) ?_; apply Exists.intro; refine ⟨fun w1 hS1 => ?_, ?_⟩; (focus ((have g0 := (hS1.cell (lt_of_cell d0)).trans d0); (have g1 := (hS1.cell (lt_of_cell d1)).trans d1); (have g2 := (hS1.cell (lt_of_cell d2)).trans d2); (have g3 := (hS1.cell (lt_of_cell d3)).trans d3); (have g4 := (hS1.cell (lt_of_cell d4)).trans d4); (have g5 := (hS1.cell (lt_of_cell d5)).trans d5); go_simp; with_reducible rfl))
    rw [show List.erase [0, 1, 2, 3, 4, 5, 6, 7, 8, 9, 10, 11] 0 = [1, 2, 3, 4, 5, 6, 7, 8, 9, 10, 11] from rfl]; simp only [Act.put, List.setIfInBounds_toArray, List.set_cons_zero, List.set_cons_succ]
    refine TxtT.pure 1 (by rfl) (by rw [List.getElem?_toArray]; rfl) (by rfl) (by as_aux_lemma => kernel_rfl) (by rfl) ?_; apply Exists.intro; refine ⟨fun w1 hS1 => ?_, ?_⟩; (focus ((have g0 := (hS1.cell (lt_of_cell z0)).trans z0); (have g1 := (hS1.cell (lt_of_cell z1)).trans z1); go_simp; with_reducible rfl))
    rw [show List.erase [1, 2, 3, 4, 5, 6, 7, 8, 9, 10, 11] 1 = [2, 3, 4, 5, 6, 7, 8, 9, 10, 11] from rfl]; simp only [Act.put, List.setIfInBounds_toArray, List.set_cons_zero, List.set_cons_succ]
    refine TxtT.pure 3 (by rfl) (by rw [List.getElem?_toArray]; rfl) (by rfl) (by as_aux_lemma => kernel_rfl) (by rfl) ?_; apply Exists.intro; refine ⟨fun w1 hS1 => ?_, ?_⟩; (focus ((have g0 := (hS1.cell (lt_of_cell z0)).trans z0); (have g1 := (hS1.cell (lt_of_cell z1)).trans z1); go_simp; with_reducible rfl))
    rw [show List.erase [2, 3, 4, 5, 6, 7, 8, 9, 10, 11] 3 = [2, 4, 5, 6, 7, 8, 9, 10, 11] from rfl]; simp only [Act.put, List.setIfInBounds_toArray, List.set_cons_zero, List.set_cons_succ]
    refine TxtT.two 2 9 (by as_aux_lemma => kernel_rfl) (by rw [List.getElem?_toArray]; rfl) (by rw [List.getElem?_toArray]; rfl) (by rfl) (by rfl) (by rfl) (by rfl) (fun u => ∃ P1 pc1, u = Value.agg #[.slice P1 3 pc1, .slice none 0 0, .slice none 0 0, .int .i64 1]) (fun u w' => BxD none W3.heap.size w' ∧ ∀ P1 pc1, u = Value.agg #[.slice P1 3 pc1, .slice none 0 0, .slice none 0 0, .int .i64 1] → RI w' P1 (allI 3)) (fun u => ∃ q, u = Value.pointer (some ⟨q, 0, none⟩)) (fun u w' => ∃ q, u = Value.pointer (some ⟨q, 0, none⟩) ∧ BxD (some q) W3.heap.size w') (fun w1 hS1 hJ1 => ?_) (fun w1 hS1 hJ1 => ?_) ?_ ?_
    · refine Eff.call (f := 18) (args := #[.agg #[.int .i64 3, .slice (some ⟨w.heap.size, 0, none⟩) 2 2], .int .i64 1]) (by go_simp) ((full_any (some ⟨w.heap.size, 0, none⟩) 3 ll3 2 1 w1 (Hp3.out.below hS1) vld3).mono ?_)
      rintro e w' ⟨P, pc, rfl, ho, hb⟩
      refine ⟨_, rfl, hS1.trans (hb.mono hS1.size), ⟨P, pc, rfl⟩, BxD.below hJ1 hb, fun P' pc' e => ?_⟩
      have e1 : P = P' := pv3_inj (s := 1) (pc := pc) (pc' := pc') e
      rw [← e1]; exact own_ri ho
    · exact Eff.value (w' := w1.alloc (.cells #[.int .i64 0, .slice none 0 0, .int .i64 0, .int .i64 0, .int .i64 0, .slice none 0 0] 55)) (v := .pointer (some ⟨w1.heap.size, 0, none⟩)) (by go_simp) ⟨hS1.trans ((newB _ _).mono hS1.size), ⟨_, rfl⟩, _, rfl, BxD.new hS1.size⟩
    ·
      rintro _ ⟨P1, pc1, rfl⟩
      rw [show List.erase [2, 4, 5, 6, 7, 8, 9, 10, 11] 2 = [4, 5, 6, 7, 8, 9, 10, 11] from rfl]; simp only [Act.put, List.setIfInBounds_toArray, List.set_cons_zero, List.set_cons_succ]
      refine TxtT.weakJ (J2 := (fun w' => BxD none W3.heap.size w' ∧ RI w' P1 (allI 3))) (fun w1 h => ⟨h.1, h.2 _ _ rfl⟩) ?_
      refine TxtT.two 4 9 (by as_aux_lemma => kernel_rfl) (by rw [List.getElem?_toArray]; rfl) (by rw [List.getElem?_toArray]; rfl) (by rfl) (by rfl) (by rfl) (by rfl) (fun u => ∃ P2 pc2, u = Value.agg #[.slice P2 3 pc2, .slice none 0 0, .slice none 0 0, .int .i64 2]) (fun u w' => BxD none W3.heap.size w' ∧ RI w' P1 (allI 3) ∧ ∀ P2 pc2, u = Value.agg #[.slice P2 3 pc2, .slice none 0 0, .slice none 0 0, .int .i64 2] → RI w' P2 (allI 3)) (fun u => ∃ q, u = Value.pointer (some ⟨q, 0, none⟩)) (fun u w' => ∃ q, u = Value.pointer (some ⟨q, 0, none⟩) ∧ BxD (some q) W3.heap.size w' ∧ RI w' P1 (allI 3)) (fun w1 hS1 hJ1 => ?_) (fun w1 hS1 hJ1 => ?_) ?_ ?_
      · refine Eff.call (f := 18) (args := #[.agg #[.int .i64 3, .slice (some ⟨w.heap.size, 0, none⟩) 2 2], .int .i64 2]) (by go_simp) ((full_any (some ⟨w.heap.size, 0, none⟩) 3 ll3 2 2 w1 (Hp3.out.below hS1) vld3).mono ?_)
        rintro e w' ⟨P, pc, rfl, ho, hb⟩
        refine ⟨_, rfl, hS1.trans (hb.mono hS1.size), ⟨P, pc, rfl⟩, BxD.below hJ1.1 hb, hJ1.2.below hb, fun P' pc' e => ?_⟩
        have e1 : P = P' := pv3_inj (s := 2) (pc := pc) (pc' := pc') e
        rw [← e1]; exact own_ri ho
      · exact Eff.value (w' := w1.alloc (.cells #[.int .i64 0, .slice none 0 0, .int .i64 0, .int .i64 0, .int .i64 0, .slice none 0 0] 55)) (v := .pointer (some ⟨w1.heap.size, 0, none⟩)) (by go_simp) ⟨hS1.trans ((newB _ _).mono hS1.size), ⟨_, rfl⟩, _, rfl, BxD.new hS1.size, hJ1.2.below (newB _ _)⟩
      ·
        rintro _ ⟨P2, pc2, rfl⟩
        rw [show List.erase [4, 5, 6, 7, 8, 9, 10, 11] 4 = [5, 6, 7, 8, 9, 10, 11] from rfl]; simp only [Act.put, List.setIfInBounds_toArray, List.set_cons_zero, List.set_cons_succ]
        refine TxtT.weakJ (J2 := (fun w' => BxD none W3.heap.size w' ∧ RI w' P1 (allI 3) ∧ RI w' P2 (allI 3))) (fun w1 h => ⟨h.1, h.2.1, h.2.2 _ _ rfl⟩) ?_
        refine TxtT.two 5 9 (by as_aux_lemma => kernel_rfl) (by rw [List.getElem?_toArray]; rfl) (by rw [List.getElem?_toArray]; rfl) (by rfl) (by rfl) (by rfl) (by rfl) (fun u => ∃ A3 c3 M3 cm3, u = Value.tuple #[.agg #[.int .i64 3, .slice A3 2 c3, .int .i64 2, .int .i64 9, .int .i64 9, .slice M3 3 cm3], .int .i64 0]) (fun u w' => BxD none W3.heap.size w' ∧ ∀ A3 c3 M3 cm3, u = Value.tuple #[.agg #[.int .i64 3, .slice A3 2 c3, .int .i64 2, .int .i64 9, .int .i64 9, .slice M3 3 cm3], .int .i64 0] → RP w' A3 ll3 ∧ (A3 = none → ll3 = [] ∧ c3 = 0) ∧ RM w' M3 rr3 ∧ (∀ b x, A3 = some ⟨b, x, none⟩ → ∀ qq, (none : Option Nat) = some qq → b ≠ qq) ∧ (∀ b x, M3 = some ⟨b, x, none⟩ → ∀ qq, (none : Option Nat) = some qq → b ≠ qq)) (fun u => ∃ q, u = Value.pointer (some ⟨q, 0, none⟩)) (fun u w' => ∃ q, u = Value.pointer (some ⟨q, 0, none⟩) ∧ BxD (some q) W3.heap.size w' ∧ RI w' P1 (allI 3) ∧ RI w' P2 (allI 3)) (fun w1 hS1 hJ1 => ?_) (fun w1 hS1 hJ1 => ?_) ?_ ?_
        · refine Eff.call (f := 17) (args := #[.agg #[.int .i64 3, .slice A2 2 c2, .int .i64 2, .int .i64 9, .int .i64 9, .slice M2 1 cm2], .agg #[.slice P1 3 pc1, .slice none 0 0, .slice none 0 0, .int .i64 1], .agg #[.slice P2 3 pc2, .slice none 0 0, .slice none 0 0, .int .i64 2]]) (by go_simp) ((run_any 3 A2 ll3 c2 2 9 9 M2 (clm 2) cm2 P1 (allI 3) pc1 1 P2 (allI 3) pc2 2 w1 (Hrp.out.below hS1) Han.out vld3.1 (by decide) (Hrm.out.below hS1) (clm_ok 2) (by decide) hJ1.2.1 (by rw [allI_len]; omega) (allI_asc 3) (by decide) (by decide) hJ1.2.2 (by rw [allI_len]; omega) (allI_asc 3) (by decide) (by decide)).mono ?_)
          rw [rr3_eq]
          rintro e w' ⟨A3, c3, M3, cm3, rfl, ho, hm, hb⟩
          refine ⟨_, rfl, hS1.trans (hb.mono hS1.size), ⟨A3, c3, M3, cm3, rfl⟩, BxD.below hJ1.1 hb, fun A' c' M' cm' e => ?_⟩
          obtain ⟨e1, e2, e3⟩ := tv3_inj (c := c3) (c' := c') (cm := cm3) (cm' := cm') e
          rw [← e1, ← e2, ← e3]; exact ⟨own_rp ho, own_nil ho, (own_rm hm).1, fun b x eb q eq => by have h1 := own_ge ho b x eb; have h2 := (hJ1.1 q eq).2.lt; omega, fun b x eb q eq => by have h1 := (own_rm hm).2 b x eb; have h2 := (hJ1.1 q eq).2.lt; omega⟩
        · exact Eff.value (w' := w1.alloc (.cells #[.int .i64 0, .slice none 0 0, .int .i64 0, .int .i64 0, .int .i64 0, .slice none 0 0] 55)) (v := .pointer (some ⟨w1.heap.size, 0, none⟩)) (by go_simp) ⟨hS1.trans ((newB _ _).mono hS1.size), ⟨_, rfl⟩, _, rfl, BxD.new hS1.size, hJ1.2.1.below (newB _ _), hJ1.2.2.below (newB _ _)⟩
        ·
          rintro _ ⟨A3, c3, M3, cm3, rfl⟩
          rw [show List.erase [5, 6, 7, 8, 9, 10, 11] 5 = [6, 7, 8, 9, 10, 11] from rfl]; simp only [Act.put, List.setIfInBounds_toArray, List.set_cons_zero, List.set_cons_succ]
          refine TxtT.weakJ (J2 := (fun w' => BxD none W3.heap.size w' ∧ RP w' A3 ll3 ∧ (A3 = none → ll3 = [] ∧ c3 = 0) ∧ RM w' M3 rr3 ∧ (∀ b x, A3 = some ⟨b, x, none⟩ → ∀ qq, (none : Option Nat) = some qq → b ≠ qq) ∧ (∀ b x, M3 = some ⟨b, x, none⟩ → ∀ qq, (none : Option Nat) = some qq → b ≠ qq))) (fun w1 h => ⟨h.1, h.2 _ _ _ _ rfl⟩) ?_
          refine TxtT.pure 6 (by rfl) (by rw [List.getElem?_toArray]; rfl) (by rfl) (by as_aux_lemma => kernel_rfl) (by rfl) ?_; apply Exists.intro; refine ⟨fun w1 hS1 => ?_, ?_⟩; (focus (skip; go_simp; with_reducible rfl))
          rw [show List.erase [6, 7, 8, 9, 10, 11] 6 = [7, 8, 9, 10, 11] from rfl]; simp only [Act.put, List.setIfInBounds_toArray, List.set_cons_zero, List.set_cons_succ]
          refine TxtT.pure 7 (by rfl) (by rw [List.getElem?_toArray]; rfl) (by rfl) (by as_aux_lemma => kernel_rfl) (by rfl) ?_; apply Exists.intro; refine ⟨fun w1 hS1 => ?_, ?_⟩; (focus (skip; go_simp; with_reducible rfl))
          rw [show List.erase [7, 8, 9, 10, 11] 7 = [8, 9, 10, 11] from rfl]; simp only [Act.put, List.setIfInBounds_toArray, List.set_cons_zero, List.set_cons_succ]
          refine TxtT.pure 8 (by rfl) (by rw [List.getElem?_toArray]; rfl) (by rfl) (by as_aux_lemma => kernel_rfl) (by rfl) ?_; apply Exists.intro; refine ⟨fun w1 hS1 => ?_, ?_⟩; (focus (skip; go_simp; with_reducible rfl))
          rw [show List.erase [8, 9, 10, 11] 8 = [9, 10, 11] from rfl]; simp only [Act.put, List.setIfInBounds_toArray, List.set_cons_zero, List.set_cons_succ]
          refine TxtT.one 9 (by as_aux_lemma => kernel_rfl) (by rw [List.getElem?_toArray]; rfl) (by rfl) (by rfl) (fun u => ∃ q, u = Value.pointer (some ⟨q, 0, none⟩)) (fun u w' => ∃ q, u = Value.pointer (some ⟨q, 0, none⟩) ∧ BxD (some q) W3.heap.size w' ∧ RP w' A3 ll3 ∧ (A3 = none → ll3 = [] ∧ c3 = 0) ∧ RM w' M3 rr3 ∧ (∀ b x, A3 = some ⟨b, x, none⟩ → ∀ qq, (some q : Option Nat) = some qq → b ≠ qq) ∧ (∀ b x, M3 = some ⟨b, x, none⟩ → ∀ qq, (some q : Option Nat) = some qq → b ≠ qq)) (fun w1 hS1 hJ1 => ?_) ?_
          · exact Eff.value (w' := w1.alloc (.cells #[.int .i64 0, .slice none 0 0, .int .i64 0, .int .i64 0, .int .i64 0, .slice none 0 0] 55)) (v := .pointer (some ⟨w1.heap.size, 0, none⟩)) (by go_simp) ⟨hS1.trans ((newB _ _).mono hS1.size), ⟨_, rfl⟩, _, rfl, BxD.new hS1.size, hJ1.2.1.below (newB _ _), hJ1.2.2.1, hJ1.2.2.2.1.below (newB _ _), fun b x eb q eq => by injection eq with eq; have := rp_lt hJ1.2.1 (by decide) b x eb; omega, fun b x eb q eq => by injection eq with eq; have := rm_lt hJ1.2.2.2.1 (by decide) b x eb; omega⟩
          rintro _ ⟨q, rfl⟩
          rw [show List.erase [9, 10, 11] 9 = [10, 11] from rfl]; simp only [Act.put, List.setIfInBounds_toArray, List.set_cons_zero, List.set_cons_succ]
          refine TxtT.weakJ (J2 := (fun w' => BxD (some q) W3.heap.size w' ∧ RP w' A3 ll3 ∧ (A3 = none → ll3 = [] ∧ c3 = 0) ∧ RM w' M3 rr3 ∧ (∀ b x, A3 = some ⟨b, x, none⟩ → ∀ qq, ((some q) : Option Nat) = some qq → b ≠ qq) ∧ (∀ b x, M3 = some ⟨b, x, none⟩ → ∀ qq, ((some q) : Option Nat) = some qq → b ≠ qq))) (fun w1 h => by obtain ⟨q', hq, h⟩ := h; injection hq with hq; injection hq with hq; injection hq with hq _ _; subst hq; exact h) ?_
          refine TxtT.one 10 (by as_aux_lemma => kernel_rfl) (by rw [List.getElem?_toArray]; rfl) (by rfl) (by rfl) (fun v => v = undef) (fun _ w' => W3.heap.size ≤ q ∧ Blk w' q 55 #[.int .i64 3, .slice A3 2 c3, .int .i64 2, .int .i64 9, .int .i64 9, .slice M3 3 cm3] ∧ RP w' A3 ll3 ∧ (A3 = none → ll3 = [] ∧ c3 = 0) ∧ RM w' M3 rr3) (fun w1 hS1 hJ1 => ?_) ?_
          · obtain ⟨hq, hk⟩ := hJ1.1 q rfl
            obtain ⟨g0, g1, g2, g3, g4, g5⟩ := dgC hk
            obtain ⟨f0, f1, f2, f3, f4, f5⟩ := dgF hk
            have hN := near_set6 (Near.refl q w1.heap.size w1) (.int .i64 3) (.slice A3 2 c3) (.int .i64 2) (.int .i64 9) (.int .i64 9) (.slice M3 3 cm3)
            exact Eff.skip (w' := (((((w1.setCell ⟨q, 0, none⟩ (.int .i64 3)).setCell ⟨q, 1, none⟩ (.slice A3 2 c3)).setCell ⟨q, 2, none⟩ (.int .i64 2)).setCell ⟨q, 3, none⟩ (.int .i64 9)).setCell ⟨q, 4, none⟩ (.int .i64 9)).setCell ⟨q, 5, none⟩ (.slice M3 3 cm3)) (by go_simp) ⟨below_set6 hS1 hq .., rfl, hq, set6 hk .., hJ1.2.1.grownQ hN.grown (fun b o e _ => hJ1.2.2.2.2.1 b o e q rfl), hJ1.2.2.1, hJ1.2.2.2.1.grown hN.grown (fun b o e => hJ1.2.2.2.2.2 b o e q rfl)⟩
          rintro _ rfl
          rw [show List.erase [10, 11] 10 = [11] from rfl]; simp only [Act.put]
          refine TxtT.pure 11 (by rfl) (by rw [List.getElem?_toArray]; rfl) (by rfl) (by as_aux_lemma => kernel_rfl) (by rfl) ?_; apply Exists.intro; refine ⟨fun w1 hS1 => ?_, ?_⟩; (focus (skip; go_simp; with_reducible rfl))
          rw [show List.erase [11] 11 = [] from rfl]; simp only [Act.put, List.setIfInBounds_toArray, List.set_cons_zero, List.set_cons_succ]
          refine ⟨rfl, fun w1 hS1 hJ1 => ?_⟩
          go_wp2_with fail
          go_meet
          exact ⟨q, A3, c3, M3, cm3, rfl, rfl, hJ1.1, hJ1.2.1, hJ1.2.2.1, hJ1.2.2.2.1, hJ1.2.2.2.2, hS1⟩
        ·
          rintro _ ⟨q, rfl⟩
          rw [show List.erase [5, 6, 7, 8, 9, 10, 11] 9 = [5, 6, 7, 8, 10, 11] from rfl]; simp only [Act.put, List.setIfInBounds_toArray, List.set_cons_zero, List.set_cons_succ]
          refine TxtT.weakJ (J2 := (fun w' => BxD (some q) W3.heap.size w' ∧ RI w' P1 (allI 3) ∧ RI w' P2 (allI 3))) (fun w1 h => by obtain ⟨q', hq, h⟩ := h; injection hq with hq; injection hq with hq; injection hq with hq _ _; subst hq; exact h) ?_
          refine TxtT.one 5 (by as_aux_lemma => kernel_rfl) (by rw [List.getElem?_toArray]; rfl) (by rfl) (by rfl) (fun u => ∃ A3 c3 M3 cm3, u = Value.tuple #[.agg #[.int .i64 3, .slice A3 2 c3, .int .i64 2, .int .i64 9, .int .i64 9, .slice M3 3 cm3], .int .i64 0]) (fun u w' => BxD (some q) W3.heap.size w' ∧ ∀ A3 c3 M3 cm3, u = Value.tuple #[.agg #[.int .i64 3, .slice A3 2 c3, .int .i64 2, .int .i64 9, .int .i64 9, .slice M3 3 cm3], .int .i64 0] → RP w' A3 ll3 ∧ (A3 = none → ll3 = [] ∧ c3 = 0) ∧ RM w' M3 rr3 ∧ (∀ b x, A3 = some ⟨b, x, none⟩ → ∀ qq, ((some q) : Option Nat) = some qq → b ≠ qq) ∧ (∀ b x, M3 = some ⟨b, x, none⟩ → ∀ qq, ((some q) : Option Nat) = some qq → b ≠ qq)) (fun w1 hS1 hJ1 => ?_) ?_
          · refine Eff.call (f := 17) (args := #[.agg #[.int .i64 3, .slice A2 2 c2, .int .i64 2, .int .i64 9, .int .i64 9, .slice M2 1 cm2], .agg #[.slice P1 3 pc1, .slice none 0 0, .slice none 0 0, .int .i64 1], .agg #[.slice P2 3 pc2, .slice none 0 0, .slice none 0 0, .int .i64 2]]) (by go_simp) ((run_any 3 A2 ll3 c2 2 9 9 M2 (clm 2) cm2 P1 (allI 3) pc1 1 P2 (allI 3) pc2 2 w1 (Hrp.out.below hS1) Han.out vld3.1 (by decide) (Hrm.out.below hS1) (clm_ok 2) (by decide) hJ1.2.1 (by rw [allI_len]; omega) (allI_asc 3) (by decide) (by decide) hJ1.2.2 (by rw [allI_len]; omega) (allI_asc 3) (by decide) (by decide)).mono ?_)
            rw [rr3_eq]
            rintro e w' ⟨A3, c3, M3, cm3, rfl, ho, hm, hb⟩
            refine ⟨_, rfl, hS1.trans (hb.mono hS1.size), ⟨A3, c3, M3, cm3, rfl⟩, BxD.below hJ1.1 hb, fun A' c' M' cm' e => ?_⟩
            obtain ⟨e1, e2, e3⟩ := tv3_inj (c := c3) (c' := c') (cm := cm3) (cm' := cm') e
            rw [← e1, ← e2, ← e3]; exact ⟨own_rp ho, own_nil ho, (own_rm hm).1, fun b x eb q eq => by have h1 := own_ge ho b x eb; have h2 := (hJ1.1 q eq).2.lt; omega, fun b x eb q eq => by have h1 := (own_rm hm).2 b x eb; have h2 := (hJ1.1 q eq).2.lt; omega⟩
          rintro _ ⟨A3, c3, M3, cm3, rfl⟩
          rw [show List.erase [5, 6, 7, 8, 10, 11] 5 = [6, 7, 8, 10, 11] from rfl]; simp only [Act.put, List.setIfInBounds_toArray, List.set_cons_zero, List.set_cons_succ]
          refine TxtT.weakJ (J2 := (fun w' => BxD (some q) W3.heap.size w' ∧ RP w' A3 ll3 ∧ (A3 = none → ll3 = [] ∧ c3 = 0) ∧ RM w' M3 rr3 ∧ (∀ b x, A3 = some ⟨b, x, none⟩ → ∀ qq, ((some q) : Option Nat) = some qq → b ≠ qq) ∧ (∀ b x, M3 = some ⟨b, x, none⟩ → ∀ qq, ((some q) : Option Nat) = some qq → b ≠ qq))) (fun w1 h => ⟨h.1, h.2 _ _ _ _ rfl⟩) ?_
          refine TxtT.pure 6 (by rfl) (by rw [List.getElem?_toArray]; rfl) (by rfl) (by as_aux_lemma => kernel_rfl) (by rfl) ?_; apply Exists.intro; refine ⟨fun w1 hS1 => ?_, ?_⟩; (focus (skip; go_simp; with_reducible rfl))
          rw [show List.erase [6, 7, 8, 10, 11] 6 = [7, 8, 10, 11] from rfl]; simp only [Act.put, List.setIfInBounds_toArray, List.set_cons_zero, List.set_cons_succ]
          refine TxtT.pure 7 (by rfl) (by rw [List.getElem?_toArray]; rfl) (by rfl) (by as_aux_lemma => kernel_rfl) (by rfl) ?_; apply Exists.intro; refine ⟨fun w1 hS1 => ?_, ?_⟩; (focus (skip; go_simp; with_reducible rfl))
          rw [show List.erase [7, 8, 10, 11] 7 = [8, 10, 11] from rfl]; simp only [Act.put, List.setIfInBounds_toArray, List.set_cons_zero, List.set_cons_succ]
          refine TxtT.pure 8 (by rfl) (by rw [List.getElem?_toArray]; rfl) (by rfl) (by as_aux_lemma => kernel_rfl) (by rfl) ?_; apply Exists.intro; refine ⟨fun w1 hS1 => ?_, ?_⟩; (focus (skip; go_simp; with_reducible rfl))
          rw [show List.erase [8, 10, 11] 8 = [10, 11] from rfl]; simp only [Act.put, List.setIfInBounds_toArray, List.set_cons_zero, List.set_cons_succ]
          refine TxtT.one 10 (by as_aux_lemma => kernel_rfl) (by rw [List.getElem?_toArray]; rfl) (by rfl) (by rfl) (fun v => v = undef) (fun _ w' => W3.heap.size ≤ q ∧ Blk w' q 55 #[.int .i64 3, .slice A3 2 c3, .int .i64 2, .int .i64 9, .int .i64 9, .slice M3 3 cm3] ∧ RP w' A3 ll3 ∧ (A3 = none → ll3 = [] ∧ c3 = 0) ∧ RM w' M3 rr3) (fun w1 hS1 hJ1 => ?_) ?_
          · obtain ⟨hq, hk⟩ := hJ1.1 q rfl
            obtain ⟨g0, g1, g2, g3, g4, g5⟩ := dgC hk
            obtain ⟨f0, f1, f2, f3, f4, f5⟩ := dgF hk
            have hN := near_set6 (Near.refl q w1.heap.size w1) (.int .i64 3) (.slice A3 2 c3) (.int .i64 2) (.int .i64 9) (.int .i64 9) (.slice M3 3 cm3)
            exact Eff.skip (w' := (((((w1.setCell ⟨q, 0, none⟩ (.int .i64 3)).setCell ⟨q, 1, none⟩ (.slice A3 2 c3)).setCell ⟨q, 2, none⟩ (.int .i64 2)).setCell ⟨q, 3, none⟩ (.int .i64 9)).setCell ⟨q, 4, none⟩ (.int .i64 9)).setCell ⟨q, 5, none⟩ (.slice M3 3 cm3)) (by go_simp) ⟨below_set6 hS1 hq .., rfl, hq, set6 hk .., hJ1.2.1.grownQ hN.grown (fun b o e _ => hJ1.2.2.2.2.1 b o e q rfl), hJ1.2.2.1, hJ1.2.2.2.1.grown hN.grown (fun b o e => hJ1.2.2.2.2.2 b o e q rfl)⟩
          rintro _ rfl
          rw [show List.erase [10, 11] 10 = [11] from rfl]; simp only [Act.put]
          refine TxtT.pure 11 (by rfl) (by rw [List.getElem?_toArray]; rfl) (by rfl) (by as_aux_lemma => kernel_rfl) (by rfl) ?_; apply Exists.intro; refine ⟨fun w1 hS1 => ?_, ?_⟩; (focus (skip; go_simp; with_reducible rfl))
          rw [show List.erase [11] 11 = [] from rfl]; simp only [Act.put, List.setIfInBounds_toArray, List.set_cons_zero, List.set_cons_succ]
          refine ⟨rfl, fun w1 hS1 hJ1 => ?_⟩
          go_wp2_with fail
          go_meet
          exact ⟨q, A3, c3, M3, cm3, rfl, rfl, hJ1.1, hJ1.2.1, hJ1.2.2.1, hJ1.2.2.2.1, hJ1.2.2.2.2, hS1⟩
      ·
        rintro _ ⟨q, rfl⟩
        rw [show List.erase [4, 5, 6, 7, 8, 9, 10, 11] 9 = [4, 5, 6, 7, 8, 10, 11] from rfl]; simp only [Act.put, List.setIfInBounds_toArray, List.set_cons_zero, List.set_cons_succ]
        refine TxtT.weakJ (J2 := (fun w' => BxD (some q) W3.heap.size w' ∧ RI w' P1 (allI 3))) (fun w1 h => by obtain ⟨q', hq, h⟩ := h; injection hq with hq; injection hq with hq; injection hq with hq _ _; subst hq; exact h) ?_
        refine TxtT.one 4 (by as_aux_lemma => kernel_rfl) (by rw [List.getElem?_toArray]; rfl) (by rfl) (by rfl) (fun u => ∃ P2 pc2, u = Value.agg #[.slice P2 3 pc2, .slice none 0 0, .slice none 0 0, .int .i64 2]) (fun u w' => BxD (some q) W3.heap.size w' ∧ RI w' P1 (allI 3) ∧ ∀ P2 pc2, u = Value.agg #[.slice P2 3 pc2, .slice none 0 0, .slice none 0 0, .int .i64 2] → RI w' P2 (allI 3)) (fun w1 hS1 hJ1 => ?_) ?_
        · refine Eff.call (f := 18) (args := #[.agg #[.int .i64 3, .slice (some ⟨w.heap.size, 0, none⟩) 2 2], .int .i64 2]) (by go_simp) ((full_any (some ⟨w.heap.size, 0, none⟩) 3 ll3 2 2 w1 (Hp3.out.below hS1) vld3).mono ?_)
          rintro e w' ⟨P, pc, rfl, ho, hb⟩
          refine ⟨_, rfl, hS1.trans (hb.mono hS1.size), ⟨P, pc, rfl⟩, BxD.below hJ1.1 hb, hJ1.2.below hb, fun P' pc' e => ?_⟩
          have e1 : P = P' := pv3_inj (s := 2) (pc := pc) (pc' := pc') e
          rw [← e1]; exact own_ri ho
        rintro _ ⟨P2, pc2, rfl⟩
        rw [show List.erase [4, 5, 6, 7, 8, 10, 11] 4 = [5, 6, 7, 8, 10, 11] from rfl]; simp only [Act.put, List.setIfInBounds_toArray, List.set_cons_zero, List.set_cons_succ]
        refine TxtT.weakJ (J2 := (fun w' => BxD (some q) W3.heap.size w' ∧ RI w' P1 (allI 3) ∧ RI w' P2 (allI 3))) (fun w1 h => ⟨h.1, h.2.1, h.2.2 _ _ rfl⟩) ?_
        refine TxtT.one 5 (by as_aux_lemma => kernel_rfl) (by rw [List.getElem?_toArray]; rfl) (by rfl) (by rfl) (fun u => ∃ A3 c3 M3 cm3, u = Value.tuple #[.agg #[.int .i64 3, .slice A3 2 c3, .int .i64 2, .int .i64 9, .int .i64 9, .slice M3 3 cm3], .int .i64 0]) (fun u w' => BxD (some q) W3.heap.size w' ∧ ∀ A3 c3 M3 cm3, u = Value.tuple #[.agg #[.int .i64 3, .slice A3 2 c3, .int .i64 2, .int .i64 9, .int .i64 9, .slice M3 3 cm3], .int .i64 0] → RP w' A3 ll3 ∧ (A3 = none → ll3 = [] ∧ c3 = 0) ∧ RM w' M3 rr3 ∧ (∀ b x, A3 = some ⟨b, x, none⟩ → ∀ qq, ((some q) : Option Nat) = some qq → b ≠ qq) ∧ (∀ b x, M3 = some ⟨b, x, none⟩ → ∀ qq, ((some q) : Option Nat) = some qq → b ≠ qq)) (fun w1 hS1 hJ1 => ?_) ?_
        · refine Eff.call (f := 17) (args := #[.agg #[.int .i64 3, .slice A2 2 c2, .int .i64 2, .int .i64 9, .int .i64 9, .slice M2 1 cm2], .agg #[.slice P1 3 pc1, .slice none 0 0, .slice none 0 0, .int .i64 1], .agg #[.slice P2 3 pc2, .slice none 0 0, .slice none 0 0, .int .i64 2]]) (by go_simp) ((run_any 3 A2 ll3 c2 2 9 9 M2 (clm 2) cm2 P1 (allI 3) pc1 1 P2 (allI 3) pc2 2 w1 (Hrp.out.below hS1) Han.out vld3.1 (by decide) (Hrm.out.below hS1) (clm_ok 2) (by decide) hJ1.2.1 (by rw [allI_len]; omega) (allI_asc 3) (by decide) (by decide) hJ1.2.2 (by rw [allI_len]; omega) (allI_asc 3) (by decide) (by decide)).mono ?_)
          rw [rr3_eq]
          rintro e w' ⟨A3, c3, M3, cm3, rfl, ho, hm, hb⟩
          refine ⟨_, rfl, hS1.trans (hb.mono hS1.size), ⟨A3, c3, M3, cm3, rfl⟩, BxD.below hJ1.1 hb, fun A' c' M' cm' e => ?_⟩
          obtain ⟨e1, e2, e3⟩ := tv3_inj (c := c3) (c' := c') (cm := cm3) (cm' := cm') e
          rw [← e1, ← e2, ← e3]; exact ⟨own_rp ho, own_nil ho, (own_rm hm).1, fun b x eb q eq => by have h1 := own_ge ho b x eb; have h2 := (hJ1.1 q eq).2.lt; omega, fun b x eb q eq => by have h1 := (own_rm hm).2 b x eb; have h2 := (hJ1.1 q eq).2.lt; omega⟩
        rintro _ ⟨A3, c3, M3, cm3, rfl⟩
        rw [show List.erase [5, 6, 7, 8, 10, 11] 5 = [6, 7, 8, 10, 11] from rfl]; simp only [Act.put, List.setIfInBounds_toArray, List.set_cons_zero, List.set_cons_succ]
        refine TxtT.weakJ (J2 := (fun w' => BxD (some q) W3.heap.size w' ∧ RP w' A3 ll3 ∧ (A3 = none → ll3 = [] ∧ c3 = 0) ∧ RM w' M3 rr3 ∧ (∀ b x, A3 = some ⟨b, x, none⟩ → ∀ qq, ((some q) : Option Nat) = some qq → b ≠ qq) ∧ (∀ b x, M3 = some ⟨b, x, none⟩ → ∀ qq, ((some q) : Option Nat) = some qq → b ≠ qq))) (fun w1 h => ⟨h.1, h.2 _ _ _ _ rfl⟩) ?_
        refine TxtT.pure 6 (by rfl) (by rw [List.getElem?_toArray]; rfl) (by rfl) (by as_aux_lemma => kernel_rfl) (by rfl) ?_; apply Exists.intro; refine ⟨fun w1 hS1 => ?_, ?_⟩; (focus (skip; go_simp; with_reducible rfl))
        rw [show List.erase [6, 7, 8, 10, 11] 6 = [7, 8, 10, 11] from rfl]; simp only [Act.put, List.setIfInBounds_toArray, List.set_cons_zero, List.set_cons_succ]
        refine TxtT.pure 7 (by rfl) (by rw [List.getElem?_toArray]; rfl) (by rfl) (by as_aux_lemma => kernel_rfl) (by rfl) ?_; apply Exists.intro; refine ⟨fun w1 hS1 => ?_, ?_⟩; (focus (skip; go_simp; with_reducible rfl))
        rw [show List.erase [7, 8, 10, 11] 7 = [8, 10, 11] from rfl]; simp only [Act.put, List.setIfInBounds_toArray, List.set_cons_zero, List.set_cons_succ]
        refine TxtT.pure 8 (by rfl) (by rw [List.getElem?_toArray]; rfl) (by rfl) (by as_aux_lemma => kernel_rfl) (by rfl) ?_; apply Exists.intro; refine ⟨fun w1 hS1 => ?_, ?_⟩; (focus (skip; go_simp; with_reducible rfl))
        rw [show List.erase [8, 10, 11] 8 = [10, 11] from rfl]; simp only [Act.put, List.setIfInBounds_toArray, List.set_cons_zero, List.set_cons_succ]
        refine TxtT.one 10 (by as_aux_lemma => kernel_rfl) (by rw [List.getElem?_toArray]; rfl) (by rfl) (by rfl) (fun v => v = undef) (fun _ w' => W3.heap.size ≤ q ∧ Blk w' q 55 #[.int .i64 3, .slice A3 2 c3, .int .i64 2, .int .i64 9, .int .i64 9, .slice M3 3 cm3] ∧ RP w' A3 ll3 ∧ (A3 = none → ll3 = [] ∧ c3 = 0) ∧ RM w' M3 rr3) (fun w1 hS1 hJ1 => ?_) ?_
        · obtain ⟨hq, hk⟩ := hJ1.1 q rfl
          obtain ⟨g0, g1, g2, g3, g4, g5⟩ := dgC hk
          obtain ⟨f0, f1, f2, f3, f4, f5⟩ := dgF hk
          have hN := near_set6 (Near.refl q w1.heap.size w1) (.int .i64 3) (.slice A3 2 c3) (.int .i64 2) (.int .i64 9) (.int .i64 9) (.slice M3 3 cm3)
          exact Eff.skip (w' := (((((w1.setCell ⟨q, 0, none⟩ (.int .i64 3)).setCell ⟨q, 1, none⟩ (.slice A3 2 c3)).setCell ⟨q, 2, none⟩ (.int .i64 2)).setCell ⟨q, 3, none⟩ (.int .i64 9)).setCell ⟨q, 4, none⟩ (.int .i64 9)).setCell ⟨q, 5, none⟩ (.slice M3 3 cm3)) (by go_simp) ⟨below_set6 hS1 hq .., rfl, hq, set6 hk .., hJ1.2.1.grownQ hN.grown (fun b o e _ => hJ1.2.2.2.2.1 b o e q rfl), hJ1.2.2.1, hJ1.2.2.2.1.grown hN.grown (fun b o e => hJ1.2.2.2.2.2 b o e q rfl)⟩
        rintro _ rfl
        rw [show List.erase [10, 11] 10 = [11] from rfl]; simp only [Act.put]
        refine TxtT.pure 11 (by rfl) (by rw [List.getElem?_toArray]; rfl) (by rfl) (by as_aux_lemma => kernel_rfl) (by rfl) ?_; apply Exists.intro; refine ⟨fun w1 hS1 => ?_, ?_⟩; (focus (skip; go_simp; with_reducible rfl))
        rw [show List.erase [11] 11 = [] from rfl]; simp only [Act.put, List.setIfInBounds_toArray, List.set_cons_zero, List.set_cons_succ]
        refine ⟨rfl, fun w1 hS1 hJ1 => ?_⟩
        go_wp2_with fail
        go_meet
        exact ⟨q, A3, c3, M3, cm3, rfl, rfl, hJ1.1, hJ1.2.1, hJ1.2.2.1, hJ1.2.2.2.1, hJ1.2.2.2.2, hS1⟩
    ·
      rintro _ ⟨q, rfl⟩
      rw [show List.erase [2, 4, 5, 6, 7, 8, 9, 10, 11] 9 = [2, 4, 5, 6, 7, 8, 10, 11] from rfl]; simp only [Act.put, List.setIfInBounds_toArray, List.set_cons_zero, List.set_cons_succ]
      refine TxtT.weakJ (J2 := (fun w' => BxD (some q) W3.heap.size w')) (fun w1 h => by obtain ⟨q', hq, h⟩ := h; injection hq with hq; injection hq with hq; injection hq with hq _ _; subst hq; exact h) ?_
      refine TxtT.one 2 (by as_aux_lemma => kernel_rfl) (by rw [List.getElem?_toArray]; rfl) (by rfl) (by rfl) (fun u => ∃ P1 pc1, u = Value.agg #[.slice P1 3 pc1, .slice none 0 0, .slice none 0 0, .int .i64 1]) (fun u w' => BxD (some q) W3.heap.size w' ∧ ∀ P1 pc1, u = Value.agg #[.slice P1 3 pc1, .slice none 0 0, .slice none 0 0, .int .i64 1] → RI w' P1 (allI 3)) (fun w1 hS1 hJ1 => ?_) ?_
      · refine Eff.call (f := 18) (args := #[.agg #[.int .i64 3, .slice (some ⟨w.heap.size, 0, none⟩) 2 2], .int .i64 1]) (by go_simp) ((full_any (some ⟨w.heap.size, 0, none⟩) 3 ll3 2 1 w1 (Hp3.out.below hS1) vld3).mono ?_)
        rintro e w' ⟨P, pc, rfl, ho, hb⟩
        refine ⟨_, rfl, hS1.trans (hb.mono hS1.size), ⟨P, pc, rfl⟩, BxD.below hJ1 hb, fun P' pc' e => ?_⟩
        have e1 : P = P' := pv3_inj (s := 1) (pc := pc) (pc' := pc') e
        rw [← e1]; exact own_ri ho
      rintro _ ⟨P1, pc1, rfl⟩
      rw [show List.erase [2, 4, 5, 6, 7, 8, 10, 11] 2 = [4, 5, 6, 7, 8, 10, 11] from rfl]; simp only [Act.put, List.setIfInBounds_toArray, List.set_cons_zero, List.set_cons_succ]
      refine TxtT.weakJ (J2 := (fun w' => BxD (some q) W3.heap.size w' ∧ RI w' P1 (allI 3))) (fun w1 h => ⟨h.1, h.2 _ _ rfl⟩) ?_
      refine TxtT.one 4 (by as_aux_lemma => kernel_rfl) (by rw [List.getElem?_toArray]; rfl) (by rfl) (by rfl) (fun u => ∃ P2 pc2, u = Value.agg #[.slice P2 3 pc2, .slice none 0 0, .slice none 0 0, .int .i64 2]) (fun u w' => BxD (some q) W3.heap.size w' ∧ RI w' P1 (allI 3) ∧ ∀ P2 pc2, u = Value.agg #[.slice P2 3 pc2, .slice none 0 0, .slice none 0 0, .int .i64 2] → RI w' P2 (allI 3)) (fun w1 hS1 hJ1 => ?_) ?_
      · refine Eff.call (f := 18) (args := #[.agg #[.int .i64 3, .slice (some ⟨w.heap.size, 0, none⟩) 2 2], .int .i64 2]) (by go_simp) ((full_any (some ⟨w.heap.size, 0, none⟩) 3 ll3 2 2 w1 (Hp3.out.below hS1) vld3).mono ?_)
        rintro e w' ⟨P, pc, rfl, ho, hb⟩
        refine ⟨_, rfl, hS1.trans (hb.mono hS1.size), ⟨P, pc, rfl⟩, BxD.below hJ1.1 hb, hJ1.2.below hb, fun P' pc' e => ?_⟩
        have e1 : P = P' := pv3_inj (s := 2) (pc := pc) (pc' := pc') e
        rw [← e1]; exact own_ri ho
      rintro _ ⟨P2, pc2, rfl⟩
      rw [show List.erase [4, 5, 6, 7, 8, 10, 11] 4 = [5, 6, 7, 8, 10, 11] from rfl]; simp only [Act.put, List.setIfInBounds_toArray, List.set_cons_zero, List.set_cons_succ]
      refine TxtT.weakJ (J2 := (fun w' => BxD (some q) W3.heap.size w' ∧ RI w' P1 (allI 3) ∧ RI w' P2 (allI 3))) (fun w1 h => ⟨h.1, h.2.1, h.2.2 _ _ rfl⟩) ?_
      refine TxtT.one 5 (by as_aux_lemma => kernel_rfl) (by rw [List.getElem?_toArray]; rfl) (by rfl) (by rfl) (fun u => ∃ A3 c3 M3 cm3, u = Value.tuple #[.agg #[.int .i64 3, .slice A3 2 c3, .int .i64 2, .int .i64 9, .int .i64 9, .slice M3 3 cm3], .int .i64 0]) (fun u w' => BxD (some q) W3.heap.size w' ∧ ∀ A3 c3 M3 cm3, u = Value.tuple #[.agg #[.int .i64 3, .slice A3 2 c3, .int .i64 2, .int .i64 9, .int .i64 9, .slice M3 3 cm3], .int .i64 0] → RP w' A3 ll3 ∧ (A3 = none → ll3 = [] ∧ c3 = 0) ∧ RM w' M3 rr3 ∧ (∀ b x, A3 = some ⟨b, x, none⟩ → ∀ qq, ((some q) : Option Nat) = some qq → b ≠ qq) ∧ (∀ b x, M3 = some ⟨b, x, none⟩ → ∀ qq, ((some q) : Option Nat) = some qq → b ≠ qq)) (fun w1 hS1 hJ1 => ?_) ?_
      · refine Eff.call (f := 17) (args := #[.agg #[.int .i64 3, .slice A2 2 c2, .int .i64 2, .int .i64 9, .int .i64 9, .slice M2 1 cm2], .agg #[.slice P1 3 pc1, .slice none 0 0, .slice none 0 0, .int .i64 1], .agg #[.slice P2 3 pc2, .slice none 0 0, .slice none 0 0, .int .i64 2]]) (by go_simp) ((run_any 3 A2 ll3 c2 2 9 9 M2 (clm 2) cm2 P1 (allI 3) pc1 1 P2 (allI 3) pc2 2 w1 (Hrp.out.below hS1) Han.out vld3.1 (by decide) (Hrm.out.below hS1) (clm_ok 2) (by decide) hJ1.2.1 (by rw [allI_len]; omega) (allI_asc 3) (by decide) (by decide) hJ1.2.2 (by rw [allI_len]; omega) (allI_asc 3) (by decide) (by decide)).mono ?_)
        rw [rr3_eq]
        rintro e w' ⟨A3, c3, M3, cm3, rfl, ho, hm, hb⟩
        refine ⟨_, rfl, hS1.trans (hb.mono hS1.size), ⟨A3, c3, M3, cm3, rfl⟩, BxD.below hJ1.1 hb, fun A' c' M' cm' e => ?_⟩
        obtain ⟨e1, e2, e3⟩ := tv3_inj (c := c3) (c' := c') (cm := cm3) (cm' := cm') e
        rw [← e1, ← e2, ← e3]; exact ⟨own_rp ho, own_nil ho, (own_rm hm).1, fun b x eb q eq => by have h1 := own_ge ho b x eb; have h2 := (hJ1.1 q eq).2.lt; omega, fun b x eb q eq => by have h1 := (own_rm hm).2 b x eb; have h2 := (hJ1.1 q eq).2.lt; omega⟩
      rintro _ ⟨A3, c3, M3, cm3, rfl⟩
      rw [show List.erase [5, 6, 7, 8, 10, 11] 5 = [6, 7, 8, 10, 11] from rfl]; simp only [Act.put, List.setIfInBounds_toArray, List.set_cons_zero, List.set_cons_succ]
      refine TxtT.weakJ (J2 := (fun w' => BxD (some q) W3.heap.size w' ∧ RP w' A3 ll3 ∧ (A3 = none → ll3 = [] ∧ c3 = 0) ∧ RM w' M3 rr3 ∧ (∀ b x, A3 = some ⟨b, x, none⟩ → ∀ qq, ((some q) : Option Nat) = some qq → b ≠ qq) ∧ (∀ b x, M3 = some ⟨b, x, none⟩ → ∀ qq, ((some q) : Option Nat) = some qq → b ≠ qq))) (fun w1 h => ⟨h.1, h.2 _ _ _ _ rfl⟩) ?_
      refine TxtT.pure 6 (by rfl) (by rw [List.getElem?_toArray]; rfl) (by rfl) (by as_aux_lemma => kernel_rfl) (by rfl) ?_; apply Exists.intro; refine ⟨fun w1 hS1 => ?_, ?_⟩; (focus (skip; go_simp; with_reducible rfl))
      rw [show List.erase [6, 7, 8, 10, 11] 6 = [7, 8, 10, 11] from rfl]; simp only [Act.put, List.setIfInBounds_toArray, List.set_cons_zero, List.set_cons_succ]
      refine TxtT.pure 7 (by rfl) (by rw [List.getElem?_toArray]; rfl) (by rfl) (by as_aux_lemma => kernel_rfl) (by rfl) ?_; apply Exists.intro; refine ⟨fun w1 hS1 => ?_, ?_⟩; (focus (skip; go_simp; with_reducible rfl))
      rw [show List.erase [7, 8, 10, 11] 7 = [8, 10, 11] from rfl]; simp only [Act.put, List.setIfInBounds_toArray, List.set_cons_zero, List.set_cons_succ]
      refine TxtT.pure 8 (by rfl) (by rw [List.getElem?_toArray]; rfl) (by rfl) (by as_aux_lemma => kernel_rfl) (by rfl) ?_; apply Exists.intro; refine ⟨fun w1 hS1 => ?_, ?_⟩; (focus (skip; go_simp; with_reducible rfl))
      rw [show List.erase [8, 10, 11] 8 = [10, 11] from rfl]; simp only [Act.put, List.setIfInBounds_toArray, List.set_cons_zero, List.set_cons_succ]
      refine TxtT.one 10 (by as_aux_lemma => kernel_rfl) (by rw [List.getElem?_toArray]; rfl) (by rfl) (by rfl) (fun v => v = undef) (fun _ w' => W3.heap.size ≤ q ∧ Blk w' q 55 #[.int .i64 3, .slice A3 2 c3, .int .i64 2, .int .i64 9, .int .i64 9, .slice M3 3 cm3] ∧ RP w' A3 ll3 ∧ (A3 = none → ll3 = [] ∧ c3 = 0) ∧ RM w' M3 rr3) (fun w1 hS1 hJ1 => ?_) ?_
      · obtain ⟨hq, hk⟩ := hJ1.1 q rfl
        obtain ⟨g0, g1, g2, g3, g4, g5⟩ := dgC hk
        obtain ⟨f0, f1, f2, f3, f4, f5⟩ := dgF hk
        have hN := near_set6 (Near.refl q w1.heap.size w1) (.int .i64 3) (.slice A3 2 c3) (.int .i64 2) (.int .i64 9) (.int .i64 9) (.slice M3 3 cm3)
        exact Eff.skip (w' := (((((w1.setCell ⟨q, 0, none⟩ (.int .i64 3)).setCell ⟨q, 1, none⟩ (.slice A3 2 c3)).setCell ⟨q, 2, none⟩ (.int .i64 2)).setCell ⟨q, 3, none⟩ (.int .i64 9)).setCell ⟨q, 4, none⟩ (.int .i64 9)).setCell ⟨q, 5, none⟩ (.slice M3 3 cm3)) (by go_simp) ⟨below_set6 hS1 hq .., rfl, hq, set6 hk .., hJ1.2.1.grownQ hN.grown (fun b o e _ => hJ1.2.2.2.2.1 b o e q rfl), hJ1.2.2.1, hJ1.2.2.2.1.grown hN.grown (fun b o e => hJ1.2.2.2.2.2 b o e q rfl)⟩
      rintro _ rfl
      rw [show List.erase [10, 11] 10 = [11] from rfl]; simp only [Act.put]
      refine TxtT.pure 11 (by rfl) (by rw [List.getElem?_toArray]; rfl) (by rfl) (by as_aux_lemma => kernel_rfl) (by rfl) ?_; apply Exists.intro; refine ⟨fun w1 hS1 => ?_, ?_⟩; (focus (skip; go_simp; with_reducible rfl))
      rw [show List.erase [11] 11 = [] from rfl]; simp only [Act.put, List.setIfInBounds_toArray, List.set_cons_zero, List.set_cons_succ]
      refine ⟨rfl, fun w1 hS1 hJ1 => ?_⟩
      go_wp2_with fail
      go_meet
      exact ⟨q, A3, c3, M3, cm3, rfl, rfl, hJ1.1, hJ1.2.1, hJ1.2.2.1, hJ1.2.2.2.1, hJ1.2.2.2.2, hS1⟩
  obtain ⟨q, A3, c3, M3, cm3, rfl, rfl, hq, hk, hr3, hA3, hm3, hS⟩ := hcut
  clear d0 d1 d2 d3 d4 d5 z0 z1
  obtain ⟨d0, d1, d2, d3, d4, d5⟩ := dgC hk
  have hbb := Hbb.out.trans (hS.mono Hbb.out.size)
  clear hS
  go_wp2_with fail
  refine (record_any 3 A3 ll3 c3 2 9 9 M3 rr3 cm3 wc hr3 hA3 (by decide) hm3 (fun e => by
    obtain ⟨b', o', e', _⟩ := hm3 0 (by decide)
    rw [e] at e'; cases e') (by decide)).mono ?_
  rintro e w5 ⟨A4, c4, M4, cm4, rfl, ho4, hm4, hb5⟩
  rw [ll3_len, rr3_len]
  have hcap : rr3.length ≤ cm4 := by
    obtain ⟨g, hg, _, h⟩ := hm4.some_ (by decide)
    exact h
  have d0 := (hb5.cell (lt_of_cell d0)).trans d0
  have d5 := (hb5.cell (lt_of_cell d5)).trans d5
  have hbb := hbb.trans (hb5.mono hbb.size)
  have hr4 := own_rp ho4; have hm4' := (own_rm hm4).1; have hA4 := own_nil ho4
  clear d1 d2 d3 d4 hb5 hk hr3 hA3 hm3
  go_wp2_with fail
  have hju : Calls Tryz.prog 19 #[.agg #[.int .i64 3, .slice A4 2 c4, .int .i64 2, .int .i64 9, .int .i64 9, .slice M4 3 cm4]] w5 (RetJu (1, 1) w5) := by
    have h := judge_any 3 A4 ll3 c4 2 9 9 M4 rr3 cm4 w5 hr4 hA4 vld3 (by decide) hm4' hcap play3 (by decide) (by decide) (by decide) (by decide) (by decide) (by decide)
    rw [rr3_end] at h
    exact h
  refine hju.mono ?_
  rintro e w6 ⟨rfl, hb6⟩
  have d5 := (hb6.cell (lt_of_cell d5)).trans d5
  have hbb := hbb.trans (hb6.mono hbb.size)
  have heqO : ∀ w, (binOp .eql 63 (.agg #[.int .i64 1, .int .i64 1]) (.agg #[.int .i64 1, .int .i64 1])).run Tryz.prog w = .ok (.bool true) w := fun w => by rw [run_eqlO]; simp
  clear d0 hb6 hr4 hA4 hm4' hcap ho4 hm4
  go_upto_region 5 with fail
  obtain ⟨w7, hw7, k7, hb7, hs7⟩ := boxedA w6 63 #[.int .i64 1, .int .i64 1]
  rw [hw7]
  have d5 := (hb7.cell (lt_of_cell d5)).trans d5
  obtain ⟨y0, y1, _, _⟩ := k7.two
  have Hb := Lib.hid (hbb.trans (hb7.mono hbb.size))
  clear hbb hb7 hw7 k7
  go_wp2_with fail
  go_ret
  exact ⟨rfl, Hb.out⟩
end Go.Proofs.YthkknlnfdckdfaaGreatDoor
