/- The walk of the statement DynamicApplies (printed by gen_apy.py). -/
import Derived.Test.YtkflanjlnbdkmaaGreatDoorApyP
namespace Go.Proofs.YtkflanjlnbdkmaaGreatDoor
open Go.ChangeShapes Go.WideShapes Go.ChangeAt Go.RowKit

theorem shapeK {w : World} {b : Nat} {v : Value} {l : List Int} (h : OwnI w b v l) : ∃ A k c, v = .slice A k c := by
  obtain ⟨A, c, e⟩ := shapeI h
  exact ⟨A, _, c, e⟩
set_option maxRecDepth 100000 in
set_option maxHeartbeats 8000000 in
theorem applies_law_any (N0 : Int) (A0 : Option Addr) (l0 : List (Int × Int)) (c0 : Nat) (B0 : Option Addr) (b0 : List Int) (e0 : Nat) (ck cf ct : Int) (AR : Option Addr) (arg : List Int) (cr : Nat) (w : World)
    (hr0 : RP w A0 l0) (hn0 : A0 = none → l0 = [] ∧ c0 = 0) (hi0 : RI w B0 b0) (hm0 : B0 = none → b0 = [] ∧ e0 = 0)
    (hlc : arg.length ≤ cr) (hc : cr ≤ 9223372036854775807) (hr : RI w AR arg) (hx : ∀ x ∈ arg, -9223372036854775808 ≤ x ∧ x ≤ 9223372036854775807) (hT : Tab w) :
    Calls Tryz.prog 3 #[.agg #[.int .i64 N0, .slice A0 l0.length c0, .slice B0 b0.length e0], .agg #[.int .i64 ck, .int .i64 cf, .int .i64 ct], .slice AR arg.length cr] w (RetB (.bool true) w) := by
  have htab : 0 < w.heap.size := lt_of_cell (hT 0 (by omega))
  go_enter Tryz.func3, Tryz.ntmps3
  go_upto_region 1 with fail
  obtain ⟨W0, hW, k0, k1, hb0, hlt0⟩ := boxed33 w 27 29 (.int .i64 N0) (.slice A0 l0.length c0) (.slice B0 b0.length e0) (.int .i64 ck) (.int .i64 cf) (.int .i64 ct)
  rw [hW]
  obtain ⟨a0, a1, a2, _, _, _⟩ := k0.threeF
  by_cases h60 : 60 < l0.length
  · have h60' : (60 : Int) < (l0.length : Int) := by omega
    clear hW
    go_wp2_with fail
    go_ret
    exact ⟨rfl, hb0⟩
  by_cases h61 : 60 < b0.length
  · have h60' : ¬ (60 : Int) < (l0.length : Int) := by omega
    have h61' : (60 : Int) < (b0.length : Int) := by omega
    clear hW
    go_wp2_with fail
    go_ret
    exact ⟨rfl, hb0⟩
  have h60' : ¬ (60 : Int) < (l0.length : Int) := by omega
  have h61' : ¬ (60 : Int) < (b0.length : Int) := by omega
  have hnew := new_any AR arg cr W0 hlc hc (hr.below hb0) hx
  have HT0 := Lib.hid hT
  have hr00 := hr0.below hb0
  have hi00 := hi0.below hb0
  have Hap0 := Lib.hid (fun (p : Nat) (hp : W0.heap.size ≤ p) => show DSt p ⟨N0, l0, A0, c0, b0, B0, e0⟩ W0 from ⟨hr00, hn0, by simp only; omega, hi00, hm0, by simp only; omega, fun b o e hl => by have := hr00.lt e hl; omega, fun b o e hl => by
    obtain ⟨b', o', e', hc'⟩ := hi00.at_ (k := 0) (List.length_pos_iff.2 hl)
    have e := e.symm.trans e'
    injection e with e; injection e with e _ _
    have := lt_of_cell hc'
    simp only at this
    omega⟩)
  clear hW hr hx hT hr0 hi0 hr00 hi00
  go_wp2_with fail
  refine hnew.mono ?_
  rintro e w1 ⟨p, rfl, hp, hs1, hb1⟩
  have k01 := k0.below hb1 k0.lt
  have k11 := k1.below hb1 k1.lt
  have hbb1 := endB hb0 hb1
  have hD1 := (Hap0.out p hp).below hb1
  have hp1 := hs1.lt
  clear hnew k0 k1 Hap0 a0 a1 a2
  go_wp2_with fail
  refine (graph2_any p 8 w1 hs1 (by omega)).mono ?_
  rintro e w2 ⟨n, l, AG, cg, rfl, hN, hv, hrp, hloc, hs2, hg2, hAn⟩
  have hpw : w.heap.size + 1 < p := by omega
  have hbb2 : Below w.heap.size w w2 := hbb1.grown hg2 hbb1.size (fun k hk => by injection hk with hk; omega)
  have k02 := k01.grown hg2 (fun e => by injection e with e; omega)
  have k12 := k11.grown hg2 (fun e => by injection e with e; omega)
  have hD2 := hD1.grown hg2
  have hp2 := hs2.lt
  have HV := Lib.hid hv; have HAn := Lib.hid hAn
  have hn40 : n ≤ 8 := hN
  clear hs1 hb1 hg2 hv hAn k01 k11 hD1 hbb1
  go_upto_region 5 with fail
  obtain ⟨W3, hW3, _, _, hb3, hlt3⟩ := boxed w2 24 (.int .i64 (n : Int)) (.slice AG l.length cg)
  have k83 : Blk W3 w2.heap.size 24 #[.int .i64 (n : Int), .slice AG l.length cg] := by rw [← hW3]; exact Blk.new w2 _ _
  rw [hW3]
  have hap3 : ApB p w2.heap.size n ⟨N0, l0, A0, c0, b0, B0, e0⟩ ck cf ct AG l cg w W3 :=
    ⟨k02.below hb3 k02.lt, k12.below hb3 k12.lt, k83, hs2.kept hb3, hD2.below hb3, hrp.below hb3, fun b o e => by have := hloc b o e; omega, endB hbb2 hb3, hpw, hp2⟩
  obtain ⟨g, hg⟩ : ∃ g, w2.heap.size = g := ⟨_, rfl⟩
  rw [hg] at hap3 ⊢
  have hgp : p < g := by omega
  clear hW3 k83 k02 k12 hs2 hD2 hrp hbb2 hb3 hg
  obtain ⟨c0', c1', c2', _, _, _⟩ := hap3.k3.threeF
  have Hd := Lib.hid (dnew_any A0 N0 l0 c0 W3 hap3.rawD.rp hap3.rawD.an hap3.rawD.ll (HT0.out.below hap3.bl))
  have hll0 : l0.length ≤ 60 := by omega
  have hse : (valE N0 l0 != valE N0 l0) = false := by simp
  have hgl0 : (nGl N0 l0).length ≤ 100000 := nGl_len hap3.rawD.ll
  have hgb0 : (gLb N0 l0).length ≤ 100000 := by
    unfold gLb; rw [lst_length]
    by_cases hve : valE N0 l0 = 0
    · obtain ⟨m, rfl, hm⟩ := vld_of_valE hve (by omega)
      rw [nGn_vld hm]; have := hm.1.1; omega
    · simp [nGn, hve]
  have hr4 := fun (W : World) (h : RP W A0 l0) => r19New_any A0 N0 l0 c0 W h hap3.rawD.an hap3.rawD.ll
  have hsm := fun (A B C D : Option Addr) (c1 c2 d1 d2 : Nat) (W : World) (h1 : RP W A (nGl N0 l0)) (h2 : RP W B (nGl N0 l0)) (h3 : RI W C (gLb N0 l0)) (h4 : RI W D (gLb N0 l0)) => same19_any A B C D (nGn N0 l0) (nGn N0 l0) (nGl N0 l0) (nGl N0 l0) (gLb N0 l0) (gLb N0 l0) c1 c2 d1 d2 W h1 h2 h3 h4 hgl0 hgl0 hgb0 hgb0
  rw [show sameD (nGn N0 l0) (nGl N0 l0) (gLb N0 l0) (nGn N0 l0) (nGl N0 l0) (gLb N0 l0) = true by simp [sameD, sameB, eqB]] at hsm
  have Hsm := Lib.hid hsm; have Hr4 := Lib.hid hr4
  clear hsm hr4 hgl0 hgb0
  generalize nGl N0 l0 = l4 at *
  generalize nGn N0 l0 = N4 at *
  generalize gLb N0 l0 = G4 at *
  generalize valE N0 l0 = E4 at *
  go_wp2_with fail
  refine Hd.out.mono ?_
  rintro e w4 ⟨A4, c4, B4, d4, rfl, hop4, hoi4, hb4⟩
  have hap4 := hap3.below hb4
  have hV4 := DyV.of_own hop4 hoi4
  clear Hd c0' c1' c2' hap3 hop4 hoi4 hb4
  go_upto_region 6 with fail
  obtain ⟨W5, hW5, k95, hb5, _⟩ := boxed3 w4 27 (.int .i64 N4) (.slice A4 l4.length c4) (.slice B4 G4.length d4)
  rw [hW5]
  have hap5 := hap4.below hb5
  have hV5 := hV4.below hb5
  obtain ⟨c0', c1', c2', _, _, _⟩ := hap5.k3.threeF
  have Hd := Lib.hid (Hr4.out W5 hap5.rawD.rp)
  clear hW5 hap4 hV4 hb5 Hr4
  go_wp2_with fail
  refine Hd.out.mono ?_
  rintro e w6 ⟨A6, c6, B6, d6, rfl, hop6, hoi6, hb6⟩
  have hap6 := hap5.below hb6
  have hV6 := hV5.below hb6
  have k96 := k95.below hb6 k95.lt
  have hV66 := DyV.of_own hop6 hoi6
  clear Hd c0' c1' c2' hap5 hV5 k95 hop6 hoi6 hb6
  go_upto_region 7 with fail
  obtain ⟨W7, hW7, kb7, hb7, _⟩ := boxed3 w6 27 (.int .i64 N4) (.slice A6 l4.length c6) (.slice B6 G4.length d6)
  rw [hW7]
  have hap7 := hap6.below hb7
  have hV7 := hV6.below hb7
  have hV77 := hV66.below hb7
  have k97 := k96.below hb7 k96.lt
  obtain ⟨c0', c1', c2', _, _, _⟩ := k97.threeF
  obtain ⟨d0', d1', d2', _, _, _⟩ := kb7.threeF
  clear hW7 hap6 hV6 hV66 k96 hb7
  go_wp2_with fail
  refine (Hsm.out _ _ _ _ _ _ _ _ W7 hV7.rp hV77.rp hV7.ri hV77.ri).mono ?_
  rintro e w8 ⟨rfl, hb8⟩
  have hap8 := hap7.below hb8
  obtain ⟨c0', c1', _, _⟩ := hap8.k8.two
  have Hd := Lib.hid (r19New_any AG n l cg w8 hap8.gr HAn.out HV.out.1.2.1)
  rw [nGn_vld HV.out, nGl_vld HV.out, HV.out.valE, show gLb n l = lst n (grL n l) by unfold gLb; rw [nGn_vld HV.out, nGl_vld HV.out, Int.toNat_natCast]] at Hd
  have hGl : (lst n (grL n l)).length ≤ 100000 := by rw [lst_length]; omega
  generalize lst n (grL n l) = G at *
  clear Hsm hV7 hV77 k97 kb7 hap7 hb8 d0' d1' d2' c2' hse
  go_wp2_with fail
  refine Hd.out.mono ?_
  rintro e w9 ⟨A9, c9, B9, d9, rfl, hop9, hoi9, hb9⟩
  have hap9 := hap8.below hb9
  have hd9 := DSt.of_own (p := p) (N := (n : Int)) hop9 hoi9 (Nat.lt_of_lt_of_le hgp (Nat.le_of_lt hap8.k8.lt)) HV.out.1.2.1 hGl
  clear Hd c0' c1' hap8 hop9 hoi9 hb9
  go_upto_region 10 with fail
  obtain ⟨W10, hW10, kd10, hb10, hlt10⟩ := boxed3 w9 27 (.int .i64 (n : Int)) (.slice A9 l.length c9) (.slice B9 G.length d9)
  rw [hW10]
  obtain ⟨wr, hwr⟩ : ∃ wr, wr = W10 := ⟨_, rfl⟩
  subst hwr
  have hap := hap9.below hb10
  have hd10 := hd9.below hb10
  obtain ⟨gd, hgd⟩ : ∃ x, w9.heap.size = x := ⟨_, rfl⟩
  have hgg : p < gd := by have := hap9.k8.lt; omega
  rw [hgd] at kd10 hlt10 ⊢
  have hpw := hap.src.lt
  clear hW10 hap9 hd9 hb10 hgd
  go_cut [15] (fun s15 wx => ∃ q Bx kx dx, s15 = Value.pointer (some ⟨q, 0, none⟩) ∧ OddJ wr p q n AG l cg Bx kx dx wx)
  case first =>
    refine wp_region_tree [4, 6, 7] (fun w' => SrcOk w' p ∧ wr.grownBy w' (some p)) (fun w' => BxO none wr.heap.size w') 8 [0, 1, 2, 3, 4, 5, 6, 7] (by rfl) (by decide) (by kernel_rfl) (by kernel_rfl) ⟨hap.src.kept (Below.refl _ _).drew, grownBy_of_below (Below.refl _ _).drew _⟩ BxO.no ?_
    refine TxtT.pure 0 (by rfl) (by rw [List.getElem?_toArray]; rfl) (by rfl) (by kernel_rfl) (by rfl) ?_; apply Exists.intro; refine ⟨fun w1 hS1 => ?_, ?_⟩; (focus ((obtain ⟨g0, g1, _, _⟩ := (hap.k8.grown hS1.2 (fun e => by injection e with e; omega)).two); go_simp; with_reducible rfl))
    rw [show List.erase [0, 1, 2, 3, 4, 5, 6, 7] 0 = [1, 2, 3, 4, 5, 6, 7] from rfl]; simp only [Act.put, List.setIfInBounds_toArray, List.set_cons_zero, List.set_cons_succ]
    refine TxtT.pure 1 (by rfl) (by rw [List.getElem?_toArray]; rfl) (by rfl) (by kernel_rfl) (by rfl) ?_; apply Exists.intro; refine ⟨fun w1 hS1 => ?_, ?_⟩; (focus (skip; go_simp; with_reducible rfl))
    rw [show List.erase [1, 2, 3, 4, 5, 6, 7] 1 = [2, 3, 4, 5, 6, 7] from rfl]; simp only [Act.put, List.setIfInBounds_toArray, List.set_cons_zero, List.set_cons_succ]
    refine TxtT.pure 2 (by rfl) (by rw [List.getElem?_toArray]; rfl) (by rfl) (by kernel_rfl) (by rfl) ?_; apply Exists.intro; refine ⟨fun w1 hS1 => ?_, ?_⟩; (focus (skip; go_simp; with_reducible rfl))
    rw [show List.erase [2, 3, 4, 5, 6, 7] 2 = [3, 4, 5, 6, 7] from rfl]; simp only [Act.put, List.setIfInBounds_toArray, List.set_cons_zero, List.set_cons_succ]
    refine TxtT.pure 3 (by rfl) (by rw [List.getElem?_toArray]; rfl) (by rfl) (by kernel_rfl) (by rfl) ?_; apply Exists.intro; refine ⟨fun w1 hS1 => ?_, ?_⟩; (focus ((obtain ⟨g0, g1, _, _⟩ := (hap.k8.grown hS1.2 (fun e => by injection e with e; omega)).two); go_simp; with_reducible rfl))
    rw [show List.erase [3, 4, 5, 6, 7] 3 = [4, 5, 6, 7] from rfl]; simp only [Act.put, List.setIfInBounds_toArray, List.set_cons_zero, List.set_cons_succ]
    refine TxtT.two 4 6 (by kernel_rfl) (by rw [List.getElem?_toArray]; rfl) (by rw [List.getElem?_toArray]; rfl) (by rfl) (by rfl) (by rfl) (by rfl) (fun v => ∃ Bx kx dx, v = Value.slice Bx kx dx) (fun v w' => BxO none wr.heap.size w' ∧ (∃ x, OwnI w' wr.heap.size v x ∧ labB n x = true) ∧ ∀ q', (none : Option Nat) = some q' → v.ownBlock ≠ some q') (fun v => ∃ q, v = Value.pointer (some ⟨q, 0, none⟩)) (fun v w' => ∃ q, v = Value.pointer (some ⟨q, 0, none⟩) ∧ BxO (some q) wr.heap.size w') (fun w1 hS1 hJ1 => ?_) (fun w1 hS1 hJ1 => ?_) ?_ ?_
    · refine Eff.call (f := 10) (args := #[.pointer (some ⟨p, 0, none⟩), .int .i64 (n : Int)]) (by go_simp) ((labels_any p n w1 hS1.1 (by omega)).mono ?_)
      rintro e w' ⟨x, v, rfl, ho, hlx, hs, hg⟩
      obtain ⟨A9, k9, c9, e9⟩ := shapeK ho
      exact ⟨_, rfl, ⟨hs, grownBy_trans hS1.2 hg⟩, ⟨A9, k9, c9, e9⟩, BxO.grown hJ1 hg (by have := hS1.2.size; omega), ⟨x, ho.mono hS1.2.size, hlx⟩, fun q hq e => by have := (World.ownsRow.lt ho q e).1; have := (hJ1 q hq).2.lt; omega⟩
    · refine Eff.value (w' := w1.alloc (.cells #[.int .i64 0, .slice none 0 0, .slice none 0 0] 27)) (v := .pointer (some ⟨w1.heap.size, 0, none⟩)) (by go_simp) ⟨⟨hS1.1.kept (newB _ _), grownBy_trans hS1.2 (grownBy_of_below (newB _ _) _)⟩, ⟨_, rfl⟩, _, rfl, BxO.new hS1.2.size⟩
    ·
      rintro _ ⟨Bx, kx, dx, rfl⟩
      rw [show List.erase [4, 5, 6, 7] 4 = [5, 6, 7] from rfl]; simp only [Act.put, List.setIfInBounds_toArray, List.set_cons_zero, List.set_cons_succ]
      refine TxtT.pure 5 (by rfl) (by rw [List.getElem?_toArray]; rfl) (by rfl) (by kernel_rfl) (by rfl) ?_; apply Exists.intro; refine ⟨fun w1 hS1 => ?_, ?_⟩; (focus (skip; go_simp; with_reducible rfl))
      rw [show List.erase [5, 6, 7] 5 = [6, 7] from rfl]; simp only [Act.put, List.setIfInBounds_toArray, List.set_cons_zero, List.set_cons_succ]
      refine TxtT.one 6 (by kernel_rfl) (by rw [List.getElem?_toArray]; rfl) (by rfl) (by rfl) (fun v => ∃ q, v = Value.pointer (some ⟨q, 0, none⟩)) (fun v w' => ∃ q, v = Value.pointer (some ⟨q, 0, none⟩) ∧ BxO (some q) wr.heap.size w' ∧ (∃ x, OwnI w' wr.heap.size (.slice Bx kx dx) x ∧ labB n x = true) ∧ ∀ q', some q = some q' → (Value.slice Bx kx dx).ownBlock ≠ some q') (fun w1 hS1 hJ1 => ?_) ?_
      · refine Eff.value (w' := w1.alloc (.cells #[.int .i64 0, .slice none 0 0, .slice none 0 0] 27)) (v := .pointer (some ⟨w1.heap.size, 0, none⟩)) (by go_simp) ⟨⟨hS1.1.kept (newB _ _), grownBy_trans hS1.2 (grownBy_of_below (newB _ _) _)⟩, ⟨_, rfl⟩, _, rfl, BxO.new hS1.2.size, hJ1.2.1.imp fun x hx => ⟨OwnI.below hx.1 (newB _ _), hx.2⟩, fun q' hq' e => by obtain ⟨x, hx, _⟩ := hJ1.2.1; have := (World.ownsRow.lt hx q' e).2; injection hq' with hq'; omega⟩
      rintro _ ⟨q, rfl⟩
      rw [show List.erase [6, 7] 6 = [7] from rfl]; simp only [Act.put, List.setIfInBounds_toArray, List.set_cons_zero, List.set_cons_succ]
      refine TxtT.weakJ (J2 := fun w' => BxO (some q) wr.heap.size w' ∧ (∃ x, OwnI w' wr.heap.size (.slice Bx kx dx) x ∧ labB n x = true) ∧ ∀ q', some q = some q' → (Value.slice Bx kx dx).ownBlock ≠ some q') (fun w1 h => by obtain ⟨q', hq, h⟩ := h; injection hq with hq; injection hq with hq; injection hq with hq _ _; subst hq; exact h) ?_
      refine TxtT.one 7 (by kernel_rfl) (by rw [List.getElem?_toArray]; rfl) (by rfl) (by rfl) (fun v => v = undef) (fun _ w' => OddJ wr p q n AG l cg Bx kx dx w') (fun w1 hS1 hJ1 => ?_) ?_
      · obtain ⟨hbx, ho, hne⟩ := hJ1
        obtain ⟨hq, hk⟩ := hbx q rfl
        obtain ⟨g0, g1, g2, z0, z1, z2⟩ := hk.threeF
        have hst := OddJ.of_store (n := n) (AG := AG) (l := l) (cg := cg) hS1.1 hS1.2 hpw hq hk ho (hne q rfl)
        exact Eff.skip (w' := ((w1.setCell ⟨q, 0, none⟩ (.int .i64 (n : Int))).setCell ⟨q, 1, none⟩ (.slice AG l.length cg)).setCell ⟨q, 2, none⟩ (.slice Bx kx dx)) (by go_simp) ⟨⟨hst.src, hst.grown⟩, rfl, hst⟩
      rintro _ rfl
      rw [show List.erase [7] 7 = [] from rfl]; simp only [Act.put]
      refine ⟨rfl, fun w1 hS1 hJ1 => ?_⟩
      go_wp2_with fail
      go_meet
      exact ⟨q, Bx, kx, dx, rfl, hJ1⟩
    ·
      rintro _ ⟨q, rfl⟩
      rw [show List.erase [4, 5, 6, 7] 6 = [4, 5, 7] from rfl]; simp only [Act.put, List.setIfInBounds_toArray, List.set_cons_zero, List.set_cons_succ]
      refine TxtT.weakJ (J2 := fun w' => BxO (some q) wr.heap.size w') (fun w1 h => by obtain ⟨q', hq, h⟩ := h; injection hq with hq; injection hq with hq; injection hq with hq _ _; subst hq; exact h) ?_
      refine TxtT.one 4 (by kernel_rfl) (by rw [List.getElem?_toArray]; rfl) (by rfl) (by rfl) (fun v => ∃ Bx kx dx, v = Value.slice Bx kx dx) (fun v w' => BxO (some q) wr.heap.size w' ∧ (∃ x, OwnI w' wr.heap.size v x ∧ labB n x = true) ∧ ∀ q', (some q) = some q' → v.ownBlock ≠ some q') (fun w1 hS1 hJ1 => ?_) ?_
      · refine Eff.call (f := 10) (args := #[.pointer (some ⟨p, 0, none⟩), .int .i64 (n : Int)]) (by go_simp) ((labels_any p n w1 hS1.1 (by omega)).mono ?_)
        rintro e w' ⟨x, v, rfl, ho, hlx, hs, hg⟩
        obtain ⟨A9, k9, c9, e9⟩ := shapeK ho
        exact ⟨_, rfl, ⟨hs, grownBy_trans hS1.2 hg⟩, ⟨A9, k9, c9, e9⟩, BxO.grown hJ1 hg (by have := hS1.2.size; omega), ⟨x, ho.mono hS1.2.size, hlx⟩, fun q hq e => by have := (World.ownsRow.lt ho q e).1; have := (hJ1 q hq).2.lt; omega⟩
      rintro _ ⟨Bx, kx, dx, rfl⟩
      rw [show List.erase [4, 5, 7] 4 = [5, 7] from rfl]; simp only [Act.put, List.setIfInBounds_toArray, List.set_cons_zero, List.set_cons_succ]
      refine TxtT.pure 5 (by rfl) (by rw [List.getElem?_toArray]; rfl) (by rfl) (by kernel_rfl) (by rfl) ?_; apply Exists.intro; refine ⟨fun w1 hS1 => ?_, ?_⟩; (focus (skip; go_simp; with_reducible rfl))
      rw [show List.erase [5, 7] 5 = [7] from rfl]; simp only [Act.put, List.setIfInBounds_toArray, List.set_cons_zero, List.set_cons_succ]
      refine TxtT.one 7 (by kernel_rfl) (by rw [List.getElem?_toArray]; rfl) (by rfl) (by rfl) (fun v => v = undef) (fun _ w' => OddJ wr p q n AG l cg Bx kx dx w') (fun w1 hS1 hJ1 => ?_) ?_
      · obtain ⟨hbx, ho, hne⟩ := hJ1
        obtain ⟨hq, hk⟩ := hbx q rfl
        obtain ⟨g0, g1, g2, z0, z1, z2⟩ := hk.threeF
        have hst := OddJ.of_store (n := n) (AG := AG) (l := l) (cg := cg) hS1.1 hS1.2 hpw hq hk ho (hne q rfl)
        exact Eff.skip (w' := ((w1.setCell ⟨q, 0, none⟩ (.int .i64 (n : Int))).setCell ⟨q, 1, none⟩ (.slice AG l.length cg)).setCell ⟨q, 2, none⟩ (.slice Bx kx dx)) (by go_simp) ⟨⟨hst.src, hst.grown⟩, rfl, hst⟩
      rintro _ rfl
      rw [show List.erase [7] 7 = [] from rfl]; simp only [Act.put]
      refine ⟨rfl, fun w1 hS1 hJ1 => ?_⟩
      go_wp2_with fail
      go_meet
      exact ⟨q, Bx, kx, dx, rfl, hJ1⟩
  obtain ⟨q, Bx, kx, dx, rfl, hJ⟩ := hcut
  obtain ⟨W11, hW11⟩ : ∃ W, W = wc := ⟨_, rfl⟩
  subst hW11
  obtain ⟨hq0, kq, ⟨x, hox, hlx⟩, hs11, hg11⟩ := hJ
  obtain ⟨A', c', e', hrx, hnx⟩ := OwnI.form2 hox
  injection e' with e1 e2 e3
  subst e1 e2 e3
  have hxl := (labB_iff.1 hlx).1
  have hap11 := hap.grown hg11 hs11
  have kd11 := kd10.grown hg11 (fun e => by injection e with e; omega)
  have hd11 := hd10.grown hg11
  have ho11 : DSt p ⟨n, l, AG, cg, x, Bx, dx⟩ W11 := ⟨hap11.gr, HAn.out, HV.out.1.2.1, hrx, hnx, by simp only; omega, fun b o e _ => by have := hap11.ga b o e; omega, fun b o e _ => by have := (World.ownsRow.lt hox b (by simp only at e; rw [e]; rfl)).1; omega⟩
  have hd : Calls Tryz.prog 8 #[.agg #[.int .i64 40, .slice none 0 0]] W11 (RetDe 40 [] (lst 40 (grL 40 [])) 0 W11) := by
    have := r19New_any none ((40 : Nat) : Int) [] 0 W11 (RP.nil _ _) (fun _ => ⟨rfl, rfl⟩) (by simp)
    rw [nGn_vld vld_empty, nGl_vld vld_empty, vld_empty.valE, show gLb ((40 : Nat) : Int) [] = lst 40 (grL 40 []) by unfold gLb; rw [nGn_vld vld_empty, nGl_vld vld_empty, Int.toNat_natCast]] at this
    exact this
  have hGl40 : (lst 40 (grL 40 [])).length ≤ 100000 := by rw [lst_length]; omega
  generalize lst 40 (grL 40 []) = GF at *
  have Hd := Lib.hid hd
  have hpq : p < q := by omega
  clear hap kd10 hd10 hox hlx hrx hnx hg11 hs11 hd hxl
  go_wp2_with fail
  refine Hd.out.mono ?_
  rintro e w12 ⟨AF, cF, BF, dF, rfl, hopF, hoiF, hb12⟩
  have hap12 := hap11.below hb12
  have kd12 := kd11.below hb12 kd11.lt
  have kq12 := kq.below hb12 kq.lt
  have hd12 := hd11.below hb12
  have ho12 := ho11.below hb12
  have hf12 := DSt.of_own (p := p) (N := 40) hopF hoiF hap11.src.lt (by simp) hGl40
  clear Hd hap11 kd11 kq hd11 ho11 hopF hoiF hb12
  go_upto_region 12 with fail
  obtain ⟨W13, hW13, kf13, hb13, _⟩ := boxed3 w12 27 (.int .i64 40) (.slice AF 0 cF) (.slice BF GF.length dF)
  rw [hW13]
  have hap13 := hap12.below hb13
  have kd13 := kd12.below hb13 kd12.lt
  have kq13 := kq12.below hb13 kq12.lt
  have hd13 := hd12.below hb13
  have ho13 := ho12.below hb13
  have hf13 := hf12.below hb13
  obtain ⟨a0, a1, a2, _, _, _⟩ := hap13.k3.threeF
  obtain ⟨d0, d1, d2, _, _, _⟩ := kd13.threeF
  obtain ⟨q0, q1, q2, _, _, _⟩ := kq13.threeF
  obtain ⟨f0, f1, f2, _, _, _⟩ := kf13.threeF
  simp only at a0 a1 a2
  clear hW13 hap12 kd12 kq12 hd12 ho12 hf12 hb13
  go_upto_region 13 with fail
  obtain ⟨W14, hW14⟩ : ∃ W, W13.alloc (.cells #[.int .i64 N0, .slice A0 l0.length c0, .slice B0 b0.length e0, .int .i64 (n : Int), .slice A9 l.length c9, .slice B9 G.length d9, .int .i64 (n : Int), .slice AG l.length cg, .slice Bx x.length dx, .int .i64 40, .slice AF 0 cF, .slice BF GF.length dF, .int .i64 0, .slice none 0 0, .slice none 0 0] 27) = W := ⟨_, rfl⟩
  have hb14 := newB W13 (.cells #[.int .i64 N0, .slice A0 l0.length c0, .slice B0 b0.length e0, .int .i64 (n : Int), .slice A9 l.length c9, .slice B9 G.length d9, .int .i64 (n : Int), .slice AG l.length cg, .slice Bx x.length dx, .int .i64 40, .slice AF 0 cF, .slice BF GF.length dF, .int .i64 0, .slice none 0 0, .slice none 0 0] 27)
  have kD : Blk W14 W13.heap.size 27 #[.int .i64 N0, .slice A0 l0.length c0, .slice B0 b0.length e0, .int .i64 (n : Int), .slice A9 l.length c9, .slice B9 G.length d9, .int .i64 (n : Int), .slice AG l.length cg, .slice Bx x.length dx, .int .i64 40, .slice AF 0 cF, .slice BF GF.length dF, .int .i64 0, .slice none 0 0, .slice none 0 0] := by rw [← hW14]; exact Blk.new _ _ _
  rw [hW14] at hb14 ⊢
  have hRD : RD W14 (some ⟨W13.heap.size, 0, none⟩) (sv5 ⟨N0, l0, A0, c0, b0, B0, e0⟩ ⟨n, l, A9, c9, G, B9, d9⟩ ⟨n, l, AG, cg, x, Bx, dx⟩ ⟨40, [], AF, cF, GF, BF, dF⟩ ⟨0, [], none, 0, [], none, 0⟩) := rd_five kD
  have hz : DSt p ⟨0, [], none, 0, [], none, 0⟩ W14 := ⟨RP.nil _ _, fun _ => ⟨rfl, rfl⟩, by simp, RI.nil _ _, fun _ => ⟨rfl, rfl⟩, by simp, fun b o e => (by cases e), fun b o e => (by cases e)⟩
  have hsv := sv5_all (hap13.rawD.below hb14) (hd13.below hb14) (ho13.below hb14) (hf13.below hb14) hz
  have hap14 := hap13.below hb14
  have hADp : ∀ b o, (some (⟨W13.heap.size, 0, none⟩ : Addr)) = some ⟨b, o, none⟩ → b ≠ p := fun b o e => by
    injection e with e; injection e with e _ _
    have := hap13.src.lt; omega
  obtain ⟨AD, hAD⟩ : ∃ AD, some (⟨W13.heap.size, 0, none⟩ : Addr) = AD := ⟨_, rfl⟩
  rw [hAD] at hRD hADp ⊢
  generalize sv5 ⟨N0, l0, A0, c0, b0, B0, e0⟩ ⟨n, l, A9, c9, G, B9, d9⟩ ⟨n, l, AG, cg, x, Bx, dx⟩ ⟨40, [], AF, cF, GF, BF, dF⟩ ⟨0, [], none, 0, [], none, 0⟩ = sv at *
  have HRD := Lib.hid hRD; have Hsv := Lib.hid hsv; have Hap := Lib.hid hap14; have HADp := Lib.hid hADp
  clear hW14 hb14 kD hap13 kd13 kq13 kf13 hd13 ho13 hf13 hz hAD hRD hsv hap14 hADp a0 a1 a2 d0 d1 d2 q0 q1 q2 f0 f1 f2
  go_wp2_with fail
  go_loopw [87] (fun s87 wr => ∃ j : Nat, j ≤ 5 ∧ s87 = .int .i64 j ∧ SrcOk wr p ∧ W14.grownBy wr (some p)) (fun s87 _ => 5 - (intOf s87).toNat)
  case atStart => exact ⟨0, by omega, rfl, Hap.out.src, grownBy_of_below (Below.refl _ _) _⟩
  case round =>
    obtain ⟨j, hj, rfl, hs, hg⟩ := hrel
    have hap := Hap.out.grown hg hs
    by_cases hj5 : j < 5
    case neg =>
      have hj5' : ¬ (j : Int) < 5 := by omega
      go_wp2_with fail
      refine (awake19_any wr (HT0.out.below hap.bl)).mono ?_
      rintro e w9 ⟨rfl, hb9⟩
      go_wp2_with fail
      go_ret
      exact ⟨rfl, endB hap.bl hb9⟩
    case pos =>
    have hj5' : (j : Int) < 5 := by omega
    have hj0 : (0 : Int) ≤ (j : Int) := by omega
    obtain ⟨b, o, rfl, h0, h1, h2⟩ := (HRD.out.grown hg HADp.out) j hj5
    have hxs := (Hsv.out j).grown hg
    generalize sv j = xs at *
    obtain ⟨N5, l5, A5, c5, b5, B5, d5⟩ := xs
    simp only at h0 h1 h2
    go_upto_region 15 with fail
    obtain ⟨W15, hW15, kd15, hb15, _⟩ := boxed3 wr 27 (.int .i64 N5) (.slice A5 l5.length c5) (.slice B5 b5.length d5)
    rw [hW15]
    have hap15 := hap.below hb15
    have hx15 := hxs.below hb15
    have hg15 := grownBy_trans hg (grownBy_of_below hb15 (some p))
    obtain ⟨D, hD⟩ : ∃ D, wr.heap.size = D := ⟨_, rfl⟩
    have hDp : p < D := by have := hs.lt; omega
    rw [hD] at kd15 ⊢
    have hp15 := hap15.src.lt
    clear hW15 hap hxs hs hg hb15 h0 h1 h2 hD
    refine wp_region_textB [4, 8, 11] (fun w' => SrcOk w' p ∧ W15.grownBy w' (some p)) (fun _ => True) (by kernel_rfl) (by kernel_rfl) (by kernel_rfl) ⟨hap15.src.kept (Below.refl _ _).drew, grownBy_of_below (Below.refl _ _).drew _⟩ trivial ?_
    repeat (first
      | (refine TxtBL.skip (by rfl) ?_; simp only [Act.put, List.setIfInBounds_toArray, List.set_cons_zero, List.set_cons_succ])
      | (refine TxtBL.take (by rfl) (by rfl) ?_; apply Exists.intro; refine ⟨fun w1 hS1 => ?_, ?_⟩; (focus ((have hap1 := hap15.grown hS1.2 hS1.1; obtain ⟨g0, g1, g2, _, _, _⟩ := hap1.k4.threeF; obtain ⟨z0, z1, _, _⟩ := hap1.k8.two; clear hap1); go_simp; with_reducible rfl)); simp only [Act.put, List.setIfInBounds_toArray, List.set_cons_zero, List.set_cons_succ])
      | (refine TxtBL.takeE (by rfl) (by rfl) ?_; apply Exists.intro; refine ⟨fun w1 hS1 => ?_, ?_⟩; (focus ((have hap1 := hap15.grown hS1.2 hS1.1; obtain ⟨g0, g1, g2, _, _, _⟩ := hap1.k4.threeF; obtain ⟨z0, z1, _, _⟩ := hap1.k8.two; clear hap1); go_simp; with_reducible rfl)); simp only [Act.put, List.setIfInBounds_toArray, List.set_cons_zero, List.set_cons_succ]))
    refine TxtBL.call (f := 11) (args := #[.pointer (some ⟨p, 0, none⟩), .int .i64 (n : Int)]) (fun u => ∃ k f t : Int, u = Value.agg #[.int .i64 k, .int .i64 f, .int .i64 t]) (fun _ _ => True) (by rfl) (by rfl) ⟨_, 0, 0, 0, rfl⟩ (fun w6 hS1 hJ1 => by go_simp) (fun w6 hS1 hJ1 => ?_) ?_
    · refine (change_any p n w6 hS1.1 (by omega) (by omega)).mono ?_
      rintro e w' ⟨k, f, t, rfl, hs, hg⟩
      exact ⟨_, rfl, ⟨hs, grownBy_trans hS1.2 hg⟩, ⟨k, f, t, rfl⟩, trivial⟩
    rintro v95 ⟨k1, f1, t1, rfl⟩
    simp only [Act.put, List.setIfInBounds_toArray, List.set_cons_zero, List.set_cons_succ]
    repeat (first
      | (refine TxtBL.skip (by rfl) ?_; simp only [Act.put, List.setIfInBounds_toArray, List.set_cons_zero, List.set_cons_succ])
      | (refine TxtBL.take (by rfl) (by rfl) ?_; apply Exists.intro; refine ⟨fun w1 hS1 => ?_, ?_⟩; (focus ((have hap1 := hap15.grown hS1.2 hS1.1; obtain ⟨g0, g1, g2, _, _, _⟩ := hap1.k4.threeF; obtain ⟨z0, z1, _, _⟩ := hap1.k8.two; clear hap1); go_simp; with_reducible rfl)); simp only [Act.put, List.setIfInBounds_toArray, List.set_cons_zero, List.set_cons_succ])
      | (refine TxtBL.takeE (by rfl) (by rfl) ?_; apply Exists.intro; refine ⟨fun w1 hS1 => ?_, ?_⟩; (focus ((have hap1 := hap15.grown hS1.2 hS1.1; obtain ⟨g0, g1, g2, _, _, _⟩ := hap1.k4.threeF; obtain ⟨z0, z1, _, _⟩ := hap1.k8.two; clear hap1); go_simp; with_reducible rfl)); simp only [Act.put, List.setIfInBounds_toArray, List.set_cons_zero, List.set_cons_succ]))
    refine TxtBL.call (f := 11) (args := #[.pointer (some ⟨p, 0, none⟩), .int .i64 (n : Int)]) (fun u => ∃ k f t : Int, u = Value.agg #[.int .i64 k, .int .i64 f, .int .i64 t]) (fun _ _ => True) (by rfl) (by rfl) ⟨_, 0, 0, 0, rfl⟩ (fun w6 hS1 hJ1 => by go_simp) (fun w6 hS1 hJ1 => ?_) ?_
    · refine (change_any p n w6 hS1.1 (by omega) (by omega)).mono ?_
      rintro e w' ⟨k, f, t, rfl, hs, hg⟩
      exact ⟨_, rfl, ⟨hs, grownBy_trans hS1.2 hg⟩, ⟨k, f, t, rfl⟩, trivial⟩
    rintro v99 ⟨k2, f2, t2, rfl⟩
    simp only [Act.put, List.setIfInBounds_toArray, List.set_cons_zero, List.set_cons_succ]
    repeat (first
      | (refine TxtBL.skip (by rfl) ?_; simp only [Act.put, List.setIfInBounds_toArray, List.set_cons_zero, List.set_cons_succ])
      | (refine TxtBL.take (by rfl) (by rfl) ?_; apply Exists.intro; refine ⟨fun w1 hS1 => ?_, ?_⟩; (focus (skip; go_simp; with_reducible rfl)); simp only [Act.put, List.setIfInBounds_toArray, List.set_cons_zero, List.set_cons_succ])
      | (refine TxtBL.takeE (by rfl) (by rfl) ?_; apply Exists.intro; refine ⟨fun w1 hS1 => ?_, ?_⟩; (focus (skip; go_simp; with_reducible rfl)); simp only [Act.put, List.setIfInBounds_toArray, List.set_cons_zero, List.set_cons_succ]))
    refine TxtBL.value (fun u => ∃ g2, u = Value.slice (some ⟨g2, 0, none⟩) 5 5) (fun u w' => ∃ g2, u = Value.slice (some ⟨g2, 0, none⟩) 5 5 ∧ Blk w' g2 29 #[.int .i64 ck, .int .i64 cf, .int .i64 ct, .int .i64 k1, .int .i64 f1, .int .i64 t1, .int .i64 k2, .int .i64 f2, .int .i64 t2, .int .i64 3, .int .i64 0, .int .i64 0, .int .i64 4, .int .i64 0, .int .i64 0]) (by rfl) (by rfl) ⟨_, 0, rfl⟩ (fun w6 hS1 hJ1 => ?_) ?_
    · exact ⟨.slice (some ⟨w6.heap.size, 0, none⟩) 5 5, w6.alloc (.cells #[.int .i64 ck, .int .i64 cf, .int .i64 ct, .int .i64 k1, .int .i64 f1, .int .i64 t1, .int .i64 k2, .int .i64 f2, .int .i64 t2, .int .i64 3, .int .i64 0, .int .i64 0, .int .i64 4, .int .i64 0, .int .i64 0] 29), by go_simp, ⟨hS1.1.kept (newB _ _), grownBy_trans hS1.2 (grownBy_of_below (newB _ _) _)⟩, ⟨_, rfl⟩, _, rfl, Blk.new _ _ _⟩
    rintro v102 ⟨g2, rfl⟩
    simp only [Act.put, List.setIfInBounds_toArray, List.set_cons_zero, List.set_cons_succ]
    repeat (first
      | (refine TxtBL.skip (by rfl) ?_; simp only [Act.put, List.setIfInBounds_toArray, List.set_cons_zero, List.set_cons_succ])
      | (refine TxtBL.take (by rfl) (by rfl) ?_; apply Exists.intro; refine ⟨fun w1 hS1 => ?_, ?_⟩; (focus (skip; go_simp; with_reducible rfl)); simp only [Act.put, List.setIfInBounds_toArray, List.set_cons_zero, List.set_cons_succ])
      | (refine TxtBL.takeE (by rfl) (by rfl) ?_; apply Exists.intro; refine ⟨fun w1 hS1 => ?_, ?_⟩; (focus (skip; go_simp; with_reducible rfl)); simp only [Act.put, List.setIfInBounds_toArray, List.set_cons_zero, List.set_cons_succ]))
    refine TxtBL.nil (fun W16 hS hJ => ?_)
    obtain ⟨g2', hg2', kC⟩ := hJ
    injection hg2' with e1; injection e1 with e1; injection e1 with e1 _ _
    subst e1
    have hRC := rc_five kC
    have hap16 := hap15.grown hS.2 hS.1
    have hx16 := hx15.grown hS.2
    have hg16 := grownBy_trans hg15 hS.2
    have kd16 := kd15.grown hS.2 (fun e => by injection e with e; omega)
    have hs16 := hS.1
    obtain ⟨cs, hcs⟩ : ∃ cs, [(ck, cf, ct), (k1, f1, t1), (k2, f2, t2), (3, 0, 0), (4, 0, 0)] = cs := ⟨_, rfl⟩
    have hcl : 5 ≤ cs.length := by rw [← hcs]; simp
    rw [hcs] at hRC
    obtain ⟨AC, hAC⟩ : ∃ AC, some (⟨g2, 0, none⟩ : Addr) = AC := ⟨_, rfl⟩
    rw [hAC] at hRC ⊢
    have HRC := Lib.hid hRC; have Hx := Lib.hid hx16; have Ha := Lib.hid hap16; have Hg := Lib.hid hg16
    clear hcs hAC hRC hx16 hap16 hg16 hS kC hap15 hx15 hg15 kd15
    go_wp2_with fail
    go_loopw [104] (fun s104 wi => ∃ i : Nat, i ≤ 5 ∧ s104 = .int .i64 i ∧ Below W16.heap.size W16 wi) (fun s104 _ => 5 - (intOf s104).toNat)
    case atStart => exact ⟨0, by omega, rfl, Below.refl _ _⟩
    case round =>
      obtain ⟨i, hi, rfl, hbi⟩ := hrel
      obtain ⟨wi, hwi⟩ : ∃ x, x = wr := ⟨_, rfl⟩
      subst hwi
      by_cases hi5 : i < 5
      case neg =>
        have hi5' : ¬ (i : Int) < 5 := by omega
        go_wp2_with fail
        go_roundw
        case rel => exact ⟨j + 1, by omega, by go_num, hs16.kept hbi, grownBy_trans Hg.out (grownBy_of_below hbi _)⟩
        case measure => simp [intOf]; omega
      case pos =>
      have hi5' : (i : Int) < 5 := by omega
      have hi0 : (0 : Int) ≤ (i : Int) := by omega
      obtain ⟨b6, o6, rfl, h0, h1, h2⟩ := (HRC.out.below hbi) i (by omega)
      obtain ⟨⟨k, f, t⟩, hq⟩ : ∃ q, cs.getD i (0, 0, 0) = q := ⟨_, rfl⟩
      rw [hq] at h0 h1 h2
      simp only at h0 h1 h2
      have kdi := kd16.below hbi kd16.lt
      have hxi := Hx.out.below hbi
      have hbbi := endB Ha.out.bl hbi
      clear hq
      go_upto_region 18 with fail
      obtain ⟨W18, hW18, kc18, hb18, _⟩ := boxed3 wi 29 (.int .i64 k) (.int .i64 f) (.int .i64 t)
      rw [hW18]
      have kd18 := kdi.below hb18 kdi.lt
      have hx18 := hxi.below hb18
      have hbb18 := endB hbbi hb18
      have hbi18 := endB hbi hb18
      obtain ⟨c0', c1', c2', _, _, _⟩ := kd18.threeF
      obtain ⟨d0', d1', d2', _, _, _⟩ := kc18.threeF
      have hlen := avR_len (N := N5) (lab := b5) (k := k) (f := f) (t := t) hx18.ll
      have hda := dApply_any A5 B5 N5 l5 b5 c5 d5 k f t W18 hx18.rp hx18.an hx18.ll hx18.ri hx18.bn hx18.bl (HT0.out.below hbb18)
      have hra := fun (W : World) (h : DSt p ⟨N5, l5, A5, c5, b5, B5, d5⟩ W) => r19Apply_any A5 B5 N5 l5 b5 c5 d5 k f t W h.rp h.an h.ll h.ri h.bn h.bl
      obtain ⟨⟨n6, l6, F6, E6⟩, hR⟩ : ∃ r, avR N5 l5 b5 k f t = r := ⟨_, rfl⟩
      rw [hR] at hda hra hlen
      simp only at hda hra hlen
      obtain ⟨hn6, hl6, hF6⟩ := hlen
      have hG6 : (lst n6 (grL n6 l6)).length ≤ 100000 := by rw [lst_length]; omega
      generalize lst n6 (grL n6 l6) = G6 at *
      have hsm := fun (A B C D : Option Addr) (c1 c2 d1 d2 : Nat) (W : World) (h1 : RP W A l6) (h2 : RP W B l6) (h3 : RI W C G6) (h4 : RI W D G6) => same19_any A B C D n6 n6 l6 l6 G6 G6 c1 c2 d1 d2 W h1 h2 h3 h4 hl6 hl6 hG6 hG6
      rw [show sameD (n6 : Int) l6 G6 n6 l6 G6 = true by simp [sameD, sameB, eqB]] at hsm
      have hin := fun (A B : Option Addr) (c1 c2 : Nat) (W : World) (h1 : RI W A F6) (h2 : RI W B F6) => ints_any A B F6 F6 c1 c2 W (by omega) (by omega) h1 h2
      rw [show eqB F6 F6 = true by simp [eqB]] at hin
      have Hda := Lib.hid hda; have Hra := Lib.hid hra; have Hsm := Lib.hid hsm; have Hin := Lib.hid hin
      have hE6 : (E6 != E6) = false := by simp
      clear hW18 kdi hxi hbbi hb18 h0 h1 h2 hda hra hsm hin hR hbi
      go_wp2_with fail
      refine Hda.out.mono ?_
      rintro e w19 ⟨A19, c19, B19, d19, F19, f19, rfl, hV19, hF19, hb19⟩
      have kd19 := kd18.below hb19 kd18.lt
      have kc19 := kc18.below hb19 kc18.lt
      have hx19 := hx18.below hb19
      have hbi19 := endB hbi18 hb19
      clear Hda kd18 kc18 hx18 hbi18 hbb18 c0' c1' c2' d0' d1' d2' hb19
      go_upto_region 19 with fail
      obtain ⟨W20, hW20, ka20, hb20, _⟩ := boxed3 w19 27 (.int .i64 (n6 : Int)) (.slice A19 l6.length c19) (.slice B19 G6.length d19)
      rw [hW20]
      have kd20 := kd19.below hb20 kd19.lt
      have kc20 := kc19.below hb20 kc19.lt
      have hx20 := hx19.below hb20
      have hbi20 := endB hbi19 hb20
      have hV20 := hV19.below hb20
      have hF20 := hF19.below hb20
      obtain ⟨c0', c1', c2', _, _, _⟩ := kd20.threeF
      obtain ⟨d0', d1', d2', _, _, _⟩ := kc20.threeF
      have Hr := Lib.hid (Hra.out W20 hx20)
      clear hW20 kd19 kc19 hx19 hbi19 hV19 hF19 hb20 Hra
      go_wp2_with fail
      refine Hr.out.mono ?_
      rintro e w21 ⟨A21, c21, B21, d21, F21, f21, rfl, hV21, hF21, hb21⟩
      have ka21 := ka20.below hb21 ka20.lt
      have hbi21 := endB hbi20 hb21
      have hV20' := hV20.below hb21
      have hF20' := hF20.below hb21
      clear Hr kd20 kc20 hx20 hbi20 hV20 hF20 ka20 c0' c1' c2' d0' d1' d2' hb21
      go_upto_region 20 with fail
      obtain ⟨W22, hW22, kb22, hb22, _⟩ := boxed3 w21 27 (.int .i64 (n6 : Int)) (.slice A21 l6.length c21) (.slice B21 G6.length d21)
      rw [hW22]
      have ka22 := ka21.below hb22 ka21.lt
      have hbi22 := endB hbi21 hb22
      have hVa := hV20'.below hb22
      have hFa := hF20'.below hb22
      have hVb := hV21.below hb22
      have hFb := hF21.below hb22
      obtain ⟨c0', c1', c2', _, _, _⟩ := ka22.threeF
      obtain ⟨d0', d1', d2', _, _, _⟩ := kb22.threeF
      clear hW22 hbi21 hV20' hF20' hV21 hF21 ka21 hb22
      go_wp2_with fail
      refine (Hsm.out _ _ _ _ _ _ _ _ W22 hVa.rp hVb.rp hVa.ri hVb.ri).mono ?_
      rintro e w23 ⟨rfl, hb23⟩
      have hbi23 := endB hbi22 hb23
      have hFa' := hFa.below hb23
      have hFb' := hFb.below hb23
      clear ka22 kb22 hVa hVb hFa hFb hb23 hbi22 c0' c1' c2' d0' d1' d2' Hsm
      go_wp2_with fail
      refine (Hin.out _ _ _ _ w23 hFa' hFb').mono ?_
      rintro e w24 ⟨rfl, hq24⟩
      have hb24 := (RetQ.below (v := .bool true) ⟨rfl, hq24⟩).2
      have hbi24 := endB hbi23 hb24
      clear hFa' hFb' hbi23 Hin hq24 hb24
      go_wp2_with fail
      go_roundw
      case rel => exact ⟨i + 1, by omega, by go_num, hbi24⟩
      case measure => simp [intOf]; omega
end Go.Proofs.YtkflanjlnbdkmaaGreatDoor
