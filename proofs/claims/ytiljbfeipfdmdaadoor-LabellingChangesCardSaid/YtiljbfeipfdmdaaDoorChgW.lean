/- The walk of the statement LabellingChanges. -/
import Derived.Test.YtiljbfeipfdmdaaDoorLc
import Derived.Test.YtiljbfeipfdmdaaDoorLb
import Derived.Test.YtiljbfeipfdmdaaDoorGst
namespace Go.Proofs.YtiljbfeipfdmdaaDoor
open Go.ChangeShapes Go.WideShapes Go.ChangeAt Go.RowKit

theorem lst_of_getD {n : Nat} {b : List Int} (h : b.length = n) {i : Nat} {x : Int} : b.set i x = lst n (upd (fun q => b.getD q 0) i x) := by
  apply List.ext_getElem
  · rw [List.length_set, lst_length, h]
  · intro j h1 h2
    rw [lst_get, List.getElem_set]
    unfold upd
    have hj : j < b.length := by rw [List.length_set] at h1; exact h1
    by_cases e : i = j
    · subst e; rw [if_pos rfl, if_pos rfl]
    · rw [if_neg e, if_neg (fun h => e h.symm)]; simp [List.getD, hj]

theorem illL_len (n : Nat) (l : List (Int × Int)) (x : List Int) : (illL n l x).length ≤ n := by
  unfold illL
  split
  · exact nodesB_length n _
  · exact Nat.zero_le _
theorem OwnI.storeL {w : World} {b g c n : Nat} {f : Nat → Int} (h : OwnI w b (.slice (some ⟨g, 0, none⟩) n c) (lst n f)) {k : Nat} (hk : k < n) (x : Int) :
    OwnI (w.setCell ⟨g, k, none⟩ (.int .i64 x)) b (.slice (some ⟨g, 0, none⟩) n c) (lst n (upd f k x)) := by
  have hl := lst_length n f
  have h' : OwnI w b (.slice (some ⟨g, 0, none⟩) (lst n f).length c) (lst n f) := by rw [hl]; exact h
  have := OwnI.store h' (k := k) (by rw [hl]; exact hk) x
  rw [hl, lst_set] at this
  exact this
theorem OwnI.frz {w : World} {b g c n : Nat} {l : List Int} (h : OwnI w b (.slice (some ⟨g, 0, none⟩) n c) l) (q : Nat) : w.frozen? ⟨g, q, none⟩ = false := by
  obtain ⟨h1, h2⟩ := h
  rcases h2 with ⟨e, hn⟩ | ⟨g', cap, cur, e, hg, hh, hn, hcap, hs, ht⟩
  · cases e
  · injection e with e1 e2 e3
    injection e1 with e1
    injection e1 with e1 _ _
    subst e1
    simp [World.frozen?, hh]
theorem RI.farI {w : World} {A : Option Addr} {l : List Int} {g k : Nat} (h : RI w A l) (hne : ∀ b o, A = some ⟨b, o, none⟩ → l ≠ [] → b ≠ g) (x : Value) : RI (w.setCell ⟨g, k, none⟩ x) A l := by
  intro j hj
  obtain ⟨b, o, hA, hc⟩ := h j hj
  have := hne b o hA (fun e => by subst e; simp at hj)
  exact ⟨b, o, hA, by rw [World.cell?_setCell_other _ _ _ _ (fun e => by injection e; omega)]; exact hc⟩

set_option maxRecDepth 100000 in
set_option maxHeartbeats 8000000 in
theorem changes_law_any (A : Option Addr) (arg : List Int) (c : Nat) (w : World)
    (hlc : arg.length ≤ c) (hc : c ≤ 9223372036854775807) (hr : RI w A arg) (hx : ∀ x ∈ arg, -9223372036854775808 ≤ x ∧ x ≤ 9223372036854775807) (hT : Tab w) :
    Calls Tryd.prog 4 #[.slice A arg.length c] w (RetB (.bool true) w) := by
  go_enter Tryd.func4, Tryd.ntmps4
  go_wp2_with fail
  refine (new_any A arg c w hlc hc hr hx).mono ?_
  rintro e w1 ⟨p, rfl, hp, hs1, hb1⟩
  have hp1 := hs1.lt
  clear hr hx
  go_wp2_with fail
  refine (graph_any p 8 w1 hs1 (by omega)).mono ?_
  rintro e w2 ⟨n, l, AL, cl, rfl, hN, hv, hrp, hloc, hs2, hg2⟩
  have hb2 : Below w.heap.size w w2 := hb1.trans (below_of_grownBy hg2 hp hb1.size)
  clear hs1 hb1 hg2
  go_wp2_with fail
  obtain ⟨W0, hW, c0, c1, hb0, hlt0⟩ := boxed w2 27 (.int .i64 n) (.slice AL l.length cl)
  rw [hW]
  clear hW
  have hst := GSt.start hp hp1 hb2 hs2 hrp hloc hb0 c0 c1
  have hn40 := hv.1.1; have hlen := hv.1.2.1
  have hn8 : n ≤ 8 := by omega
  have HV := Lib.hid hv
  clear hs2 hrp hloc hb0 c0 c1 hb2 hp1 hv
  generalize w2.heap.size = G at *
  have hpW : p < W0.heap.size := hst.src.lt
  obtain ⟨c0, c1⟩ : _ ∧ _ := ⟨hst.c0, hst.c1⟩
  refine wp_region_textB [3, 7] (fun w' => GSt w p G n l AL cl w' ∧ W0.heap.size ≤ w'.heap.size) (fun _ => True) (by kernel_rfl) (by kernel_rfl) (by kernel_rfl) ⟨hst.below (Below.refl _ _).drew, Nat.le_refl _⟩ trivial ?_
  repeat (first
    | (refine TxtBL.skip (by rfl) ?_; simp only [Act.put, List.setIfInBounds_toArray, List.set_cons_zero, List.set_cons_succ])
    | (refine TxtBL.take (by rfl) (by rfl) ?_; apply Exists.intro; refine ⟨fun w1 hS1 => ?_, ?_⟩; (focus ((have g0 := hS1.1.c0); (have g1 := hS1.1.c1); go_simp; with_reducible rfl)); simp only [Act.put, List.setIfInBounds_toArray, List.set_cons_zero, List.set_cons_succ])
    | (refine TxtBL.takeE (by rfl) (by rfl) ?_; apply Exists.intro; refine ⟨fun w1 hS1 => ?_, ?_⟩; (focus ((have g0 := hS1.1.c0); (have g1 := hS1.1.c1); go_simp; with_reducible rfl)); simp only [Act.put, List.setIfInBounds_toArray, List.set_cons_zero, List.set_cons_succ]))
  refine TxtBL.call (f := 17) (args := #[.pointer (some ⟨p, 0, none⟩), .int .i64 n]) (fun v => ∃ A k c, v = Value.slice A k c) (fun v w' => ∃ a, OwnI w' W0.heap.size v a ∧ labB n a = true) (by rfl) (by rfl) ⟨_, none, 0, 0, rfl⟩ (fun w1 hS1 hJ1 => by go_simp) (fun w1 hS1 hJ1 => ?_) ?_
  · refine (labels_any p n w1 hS1.1.src (by omega)).mono ?_
    rintro e w' ⟨a, v, rfl, ho, hla, hs, hg⟩
    obtain ⟨A', c', e', _, _⟩ := ho.form
    exact ⟨v, rfl, ⟨hS1.1.grown hs hg, Nat.le_trans hS1.2 hg.size⟩, ⟨A', _, c', e'⟩, a, OwnI.mono ho hS1.2, hla⟩
  rintro v18 ⟨A18, k18, c18, rfl⟩
  simp only [Act.put, List.setIfInBounds_toArray, List.set_cons_zero, List.set_cons_succ]
  repeat (first
    | (refine TxtBL.skip (by rfl) ?_; simp only [Act.put, List.setIfInBounds_toArray, List.set_cons_zero, List.set_cons_succ])
    | (refine TxtBL.take (by rfl) (by rfl) ?_; apply Exists.intro; refine ⟨fun w1 hS1 => ?_, ?_⟩; (focus ((have g0 := hS1.1.c0); (have g1 := hS1.1.c1); go_simp; with_reducible rfl)); simp only [Act.put, List.setIfInBounds_toArray, List.set_cons_zero, List.set_cons_succ])
    | (refine TxtBL.takeE (by rfl) (by rfl) ?_; apply Exists.intro; refine ⟨fun w1 hS1 => ?_, ?_⟩; (focus ((have g0 := hS1.1.c0); (have g1 := hS1.1.c1); go_simp; with_reducible rfl)); simp only [Act.put, List.setIfInBounds_toArray, List.set_cons_zero, List.set_cons_succ]))
  refine TxtBL.call (f := 17) (args := #[.pointer (some ⟨p, 0, none⟩), .int .i64 n]) (fun v => ∃ A k c, v = Value.slice A k c) (fun v w' => (∃ a, OwnI w' W0.heap.size (.slice A18 k18 c18) a ∧ labB n a = true) ∧ ∃ b, OwnI w' W0.heap.size v b ∧ labB n b = true) (by rfl) (by rfl) ⟨_, none, 0, 0, rfl⟩ (fun w1 hS1 hJ1 => by go_simp) (fun w1 hS1 hJ1 => ?_) ?_
  · refine (labels_any p n w1 hS1.1.src (by omega)).mono ?_
    rintro e w' ⟨a, v, rfl, ho, hla, hs, hg⟩
    obtain ⟨A', c', e', _, _⟩ := ho.form
    obtain ⟨a0, ho0, hl0⟩ := hJ1
    exact ⟨v, rfl, ⟨hS1.1.grown hs hg, Nat.le_trans hS1.2 hg.size⟩, ⟨A', _, c', e'⟩, ⟨a0, ownsRow_far ho0 hg hpW, hl0⟩, a, OwnI.mono ho hS1.2, hla⟩
  rintro v22 ⟨A22, k22, c22, rfl⟩
  simp only [Act.put, List.setIfInBounds_toArray, List.set_cons_zero, List.set_cons_succ]
  repeat (first
    | (refine TxtBL.skip (by rfl) ?_; simp only [Act.put, List.setIfInBounds_toArray, List.set_cons_zero, List.set_cons_succ])
    | (refine TxtBL.take (by rfl) (by rfl) ?_; apply Exists.intro; refine ⟨fun w1 hS1 => ?_, ?_⟩; (focus (skip; go_simp; with_reducible rfl)); simp only [Act.put, List.setIfInBounds_toArray, List.set_cons_zero, List.set_cons_succ])
    | (refine TxtBL.takeE (by rfl) (by rfl) ?_; apply Exists.intro; refine ⟨fun w1 hS1 => ?_, ?_⟩; (focus (skip; go_simp; with_reducible rfl)); simp only [Act.put, List.setIfInBounds_toArray, List.set_cons_zero, List.set_cons_succ]))
  refine TxtBL.nil (fun B hS hJ => ?_)
  obtain ⟨⟨a, hoa, hla⟩, b, hob, hlb⟩ := hJ
  have hnb : A22 = none → b = [] ∧ c22 = 0 := by
    obtain ⟨A9, c9, e9, _, h9⟩ := hob.form2
    injection e9 with e1 e2 e3
    subst e1 e3
    exact h9
  obtain ⟨A1, c1', ea, hra, _⟩ := hoa.form
  injection ea with ea1 ea2 ea3
  subst ea1 ea2 ea3
  obtain ⟨A2, c2', eb, hrb, _⟩ := hob.form
  injection eb with eb1 eb2 eb3
  subst eb1 eb2 eb3
  obtain ⟨hstB, hBW⟩ := hS
  clear hst c0 c1 hoa hob
  have lla := (labB_iff.1 hla).1
  have llb := (labB_iff.1 hlb).1
  have Hla := Lib.hid hla; have Hlb := Lib.hid hlb; have Lla := Lib.hid lla; have Llb := Lib.hid llb
  have hTB := hT.below hstB.hb
  obtain ⟨d0, d1⟩ : _ ∧ _ := ⟨hstB.c0, hstB.c1⟩
  have hrB := hstB.rp
  have hBw := hstB.hb
  have sa : a.length ≤ 8 := by omega
  have sb : b.length ≤ 8 := by omega
  have Hnb := Lib.hid hnb
  rw [llb]
  clear hla hlb lla llb hnb hstB hT
  go_wp2_with fail
  go_loopw [7] (fun i wr => ∃ k : Nat, k ≤ n ∧ i = .int .i64 k ∧ Below B.heap.size B wr) (fun i _ => n - (intOf i).toNat)
  case atStart => exact ⟨0, Nat.zero_le _, rfl, Below.refl _ _⟩
  case round =>
    obtain ⟨i, hi, rfl, hbl⟩ := hrel
    have e0 := (hbl.cell (lt_of_cell d0)).trans d0
    have e1 := (hbl.cell (lt_of_cell d1)).trans d1
    by_cases hlt : i < n
    case neg =>
      have hlt' : ¬ (i : Int) < (n : Int) := by omega
      go_wp2_with fail
      refine (awake11_any wr (hTB.below hbl)).mono ?_
      rintro e w9 ⟨rfl, hb9⟩
      go_wp2_with fail
      go_ret
      exact ⟨rfl, hBw.trans ((endB hbl hb9).mono hBw.size)⟩
    case pos =>
    have hlt' : (i : Int) < (n : Int) := by omega
    have hia : i < a.length := by rw [Lla.out]; exact hlt
    have hib : i < b.length := by rw [Llb.out]; exact hlt
    have hia' : (i : Int) < (a.length : Int) := by omega
    have hib' : (i : Int) < (b.length : Int) := by omega
    obtain ⟨W1, hW1⟩ : ∃ W1, W1 = wr := ⟨_, rfl⟩
    subst hW1
    have hra1 := hra.below hbl; have hrb1 := hrb.below hbl
    have hr1 := hrB.below hbl; have hT1 := hTB.below hbl
    go_upto_region 9 with (at_builtin; refine wpList_appIs (by rfl) _ _ (by rfl) (W1.alloc (.cells #[] 3)) W1.heap.size _ [] A22 b c22 (own_empty W1) (hrb1.below (newB _ _)) Hnb.out (by rfl) (by rw [Llb.out]; rfl) (by simp; omega) (by simp) ?_; intro v7 w7 ho7 hb7 hg7; (obtain ⟨A7, c7, rfl, _, _⟩ := OwnI.form2 ho7); simp only [List.nil_append] at ho7; simp only [List.nil_append]; (obtain ⟨g, rfl, hgw, hgs, hfz⟩ := OwnI.pos ho7 (by omega)); have hfi := hfz i; have hci := OwnI.cellAt ho7 hib; have hb7' : Below W1.heap.size W1 w7 := ((Below.refl _ _).alloc (Nat.le_refl _) _).trans hb7; (obtain ⟨ba, oa, hAa, hca⟩ := (hra1.below hb7').at_ hia); subst hAa; clear hb7 hg7)
    have ho8 := OwnI.store ho7 hib a[i]
    have hgia : a[i] = a.getD i 0 := by simp [List.getD, hia]
    have e8 : b.set i a[i] = lst n (chgF l a b i 0) := by
      rw [lst_of_getD Llb.out]
      exact lst_congr fun j _ => by rw [chgF_zero, hgia]
    rw [e8, Llb.out] at ho8
    have hB8 : Below W1.heap.size W1 (w7.setCell ⟨g, i, none⟩ (.int .i64 a[i])) := hb7'.setCell (p := ⟨g, i, none⟩) hgw _
    have hgs8 : g < (w7.setCell ⟨g, i, none⟩ (.int .i64 a[i])).heap.size := by simpa [World.setCell] using hgs
    rw [Llb.out]
    clear e8 hgia hfi hci hca ho7 hfz hb7' hgs
    obtain ⟨w8, hw8⟩ : ∃ w8, w7.setCell ⟨g, i, none⟩ (.int .i64 a[i]) = w8 := ⟨_, rfl⟩
    rw [hw8] at ho8 hB8 hgs8 ⊢
    clear hw8
    have hbl8 := endB hbl hB8
    clear e0 e1
    have e0 := (hbl8.cell (lt_of_cell d0)).trans d0
    have e1 := (hbl8.cell (lt_of_cell d1)).trans d1
    go_wp2_with fail
    refine (gAttackers_any _ n l _ i w8 (hrB.below hbl8) HV.out (hTB.below hbl8)).mono ?_
    rintro e w9 ⟨A9, c9, rfl, ho9, hri9, _, hb9⟩
    have hne9 : ∀ b o, A9 = some ⟨b, o, none⟩ → attackersL l i ≠ [] → b ≠ g := fun b o h _ => by
      have := OwnI.block ho9 b (by rw [h]; rfl)
      omega
    have ho9' := OwnI.below ho8 hb9
    have hB9 := endB hB8 hb9
    have hal := attackersL_len l i
    have hatn : ∀ q (h : q < (attackersL l i).length), ∃ z : Nat, (attackersL l i)[q] = (z : Int) ∧ z < n := fun q h => by
      obtain ⟨z, h1, h2, _⟩ := attacker_nat HV.out.1 (List.getElem_mem h)
      exact ⟨z, h1, h2⟩
    have Hatn := Lib.hid hatn
    clear e0 e1 ho8 hB8 ho9 hb9 hatn hgs8 hbl8
    go_wp2_with fail
    go_loopw [43] (fun t wr => ∃ q : Nat, q ≤ (attackersL l i).length ∧ t = .int .i64 q ∧ OwnI wr W1.heap.size (.slice (some ⟨g, 0, none⟩) n c7) (lst n (chgF l a b i q)) ∧ RI wr A9 (attackersL l i) ∧ Below W1.heap.size W1 wr) (fun t _ => (attackersL l i).length - (intOf t).toNat)
    case atStart => exact ⟨0, Nat.zero_le _, rfl, ho9', hri9, hB9⟩
    case round =>
      clear ho9' hri9 hB9
      obtain ⟨q, hq, rfl, hoq, hriq, hbq⟩ := hrel
      have hblq := endB hbl hbq
      have e0 := (hblq.cell (lt_of_cell d0)).trans d0
      have e1 := (hblq.cell (lt_of_cell d1)).trans d1
      by_cases hql : q < (attackersL l i).length
      case pos =>
        have hql' : (q : Int) < ((attackersL l i).length : Int) := by omega
        obtain ⟨b9, o9, hA9, hc9⟩ := hriq.at_ hql
        subst hA9
        obtain ⟨z, hz, hzn⟩ := Hatn.out q hql
        rw [hz] at hc9
        have hzn' : (z : Int) < (n : Int) := by omega
        have hza : z < a.length := by rw [Lla.out]; exact hzn
        have hza' : (z : Int) < (a.length : Int) := by omega
        obtain ⟨ba, oa, hAa, hca⟩ := (hra1.below hbq).at_ hza
        injection hAa with hAa
        injection hAa with qa1 qa2 _
        subst qa1 qa2
        have hoq' : OwnI wr W1.heap.size (.slice (some ⟨g, 0, none⟩) (lst n (chgF l a b i q)).length c7) (lst n (chgF l a b i q)) := by rw [lst_length]; exact hoq
        have hcz := OwnI.cellAt hoq' (k := z) (by rw [lst_length]; exact hzn)
        have hfz := OwnI.frz hoq z
        have hoz := OwnI.storeL hoq hzn a[z]
        have hgz : a[z] = a.getD z 0 := by simp [List.getD, hza]
        have ez : lst n (upd (chgF l a b i q) z a[z]) = lst n (chgF l a b i (q + 1)) := lst_congr fun j _ => by rw [chgF_succ hql hz, hgz]
        rw [ez] at hoz
        have Hoz := Lib.hid hoz
        have hriz := RI.farI hriq hne9 (.int .i64 a[z]) (k := z)
        have hbz : Below W1.heap.size W1 (wr.setCell ⟨g, z, none⟩ (.int .i64 a[z])) := hbq.setCell (p := ⟨g, z, none⟩) hgw _
        clear ez hgz hoz hoq hoq' hz
        have Hriz := Lib.hid hriz
        clear hriz
        go_wp2_with fail
        go_roundw
        case rel => exact ⟨q + 1, by omega, by go_num, Hoz.out, Hriz.out, hbz⟩
        case measure => simp [intOf]; omega
      case neg =>
      obtain rfl : q = (attackersL l i).length := by omega
      have hlc' : labB n (lst n (chgF l a b i (attackersL l i).length)) = true := chg_lab Hla.out Hlb.out i _
      have hri' : RI wr (some ⟨g, 0, none⟩) (lst n (chgF l a b i (attackersL l i).length)) := by
        have : OwnI wr W1.heap.size (.slice (some ⟨g, 0, none⟩) (lst n (chgF l a b i (attackersL l i).length)).length c7) (lst n (chgF l a b i (attackersL l i).length)) := by rw [lst_length]; exact hoq
        exact this.ri
      have Hleg := Lib.hid (chg_leg (a := a) (b := b) HV.out.1 hlt)
      have hLc := lst_length n (chgF l a b i (attackersL l i).length)
      generalize lst n (chgF l a b i (attackersL l i).length) = cl' at *
      clear hoq hriq
      have Hc1 := Lib.hid (inB_ill (l := l) Hla.out hlt)
      have Hc2 := Lib.hid (inB_ill (l := l) hlc' hlt)
      have Hq : Hid (inB (illL n l cl') i = inB (illL n l a) i) := Lib.hid (by rw [Hc1.out, Hc2.out, Hleg.out])
      obtain ⟨W2, hW2⟩ : ∃ W2, W2 = wr := ⟨_, rfl⟩
      subst hW2
      have hr2 := hrB.below hblq
      have hT2 := hTB.below hblq
      have hra2 := hra1.below hbq
      have hil1 : (illL n l a).length ≤ 100000 := by have := illL_len n l a; omega
      have hil2 : (illL n l cl').length ≤ 100000 := by have := illL_len n l cl'; omega
      go_wp2_with fail
      refine wp_region_textB [2, 4, 7, 9] (SB W2) (RIs []) (by kernel_rfl) (by kernel_rfl) (by kernel_rfl) (Below.refl _ _).drew (RIs.nil _) ?_
      repeat (first
        | (refine TxtBL.skip (by rfl) ?_; simp only [Act.put, List.setIfInBounds_toArray, List.set_cons_zero, List.set_cons_succ])
        | (refine TxtBL.take (by rfl) (by rfl) ?_; apply Exists.intro; refine ⟨fun w1 hS1 => ?_, ?_⟩; (focus ((have g0 := (hS1.cell (lt_of_cell e0)).trans e0); (have g1 := (hS1.cell (lt_of_cell e1)).trans e1); go_simp; with_reducible rfl)); simp only [Act.put, List.setIfInBounds_toArray, List.set_cons_zero, List.set_cons_succ])
        | (refine TxtBL.takeE (by rfl) (by rfl) ?_; apply Exists.intro; refine ⟨fun w1 hS1 => ?_, ?_⟩; (focus ((have g0 := (hS1.cell (lt_of_cell e0)).trans e0); (have g1 := (hS1.cell (lt_of_cell e1)).trans e1); go_simp; with_reducible rfl)); simp only [Act.put, List.setIfInBounds_toArray, List.set_cons_zero, List.set_cons_succ]))
      refine TxtBL.callI (by rfl) (by rfl) ?_
      apply Exists.intro; apply Exists.intro
      refine ⟨fun w1 hS1 => ?_, ?_⟩
      focus (go_simp; first | with_reducible rfl | exact ⟨rfl, rfl⟩)
      refine ⟨illL n l a, fun w1 hS1 hJ1 => ?_, fun A91 c91 => ?_⟩
      · exact lIllegal_any _ n l _ _ a _ _ (hr2.below hS1) HV.out (hra2.below hS1) (by omega) (hT2.below hS1)
      simp only [Act.put, List.setIfInBounds_toArray, List.set_cons_zero, List.set_cons_succ]
      repeat (first
        | (refine TxtBL.skip (by rfl) ?_; simp only [Act.put, List.setIfInBounds_toArray, List.set_cons_zero, List.set_cons_succ])
        | (refine TxtBL.take (by rfl) (by rfl) ?_; apply Exists.intro; refine ⟨fun w1 hS1 => ?_, ?_⟩; (focus (skip; go_simp; with_reducible rfl)); simp only [Act.put, List.setIfInBounds_toArray, List.set_cons_zero, List.set_cons_succ])
        | (refine TxtBL.takeE (by rfl) (by rfl) ?_; apply Exists.intro; refine ⟨fun w1 hS1 => ?_, ?_⟩; (focus (skip; go_simp; with_reducible rfl)); simp only [Act.put, List.setIfInBounds_toArray, List.set_cons_zero, List.set_cons_succ]))
      refine TxtBL.callB (by rfl) (by rfl) ?_
      apply Exists.intro; apply Exists.intro
      refine ⟨fun w1 hS1 => ?_, ?_⟩
      focus (go_simp; first | with_reducible rfl | exact ⟨rfl, rfl⟩)
      refine ⟨.bool (inB (illL n l a) i), fun w1 hS1 hJ1 => ?_, ?_⟩
      · exact (in_any A91 (illL n l a) c91 i w1 (by omega) hJ1.head).mono fun e w' h => h.quiet.below
      simp only [Act.put, List.setIfInBounds_toArray, List.set_cons_zero, List.set_cons_succ]
      repeat (first
        | (refine TxtBL.skip (by rfl) ?_; simp only [Act.put, List.setIfInBounds_toArray, List.set_cons_zero, List.set_cons_succ])
        | (refine TxtBL.take (by rfl) (by rfl) ?_; apply Exists.intro; refine ⟨fun w1 hS1 => ?_, ?_⟩; (focus ((have g0 := (hS1.cell (lt_of_cell e0)).trans e0); (have g1 := (hS1.cell (lt_of_cell e1)).trans e1); go_simp; with_reducible rfl)); simp only [Act.put, List.setIfInBounds_toArray, List.set_cons_zero, List.set_cons_succ])
        | (refine TxtBL.takeE (by rfl) (by rfl) ?_; apply Exists.intro; refine ⟨fun w1 hS1 => ?_, ?_⟩; (focus ((have g0 := (hS1.cell (lt_of_cell e0)).trans e0); (have g1 := (hS1.cell (lt_of_cell e1)).trans e1); go_simp; with_reducible rfl)); simp only [Act.put, List.setIfInBounds_toArray, List.set_cons_zero, List.set_cons_succ]))
      refine TxtBL.callI (by rfl) (by rfl) ?_
      apply Exists.intro; apply Exists.intro
      refine ⟨fun w1 hS1 => ?_, ?_⟩
      focus (go_simp; first | with_reducible rfl | exact ⟨rfl, rfl⟩)
      refine ⟨illL n l cl', fun w1 hS1 hJ1 => ?_, fun A92 c92 => ?_⟩
      · have H9 := lIllegal_any AL n l cl (some ⟨g, 0, none⟩) cl' c7 w1 (hr2.below hS1) HV.out (hri'.below hS1) (by omega) (hT2.below hS1)
        rw [hLc] at H9
        exact H9
      simp only [Act.put, List.setIfInBounds_toArray, List.set_cons_zero, List.set_cons_succ]
      repeat (first
        | (refine TxtBL.skip (by rfl) ?_; simp only [Act.put, List.setIfInBounds_toArray, List.set_cons_zero, List.set_cons_succ])
        | (refine TxtBL.take (by rfl) (by rfl) ?_; apply Exists.intro; refine ⟨fun w1 hS1 => ?_, ?_⟩; (focus (skip; go_simp; with_reducible rfl)); simp only [Act.put, List.setIfInBounds_toArray, List.set_cons_zero, List.set_cons_succ])
        | (refine TxtBL.takeE (by rfl) (by rfl) ?_; apply Exists.intro; refine ⟨fun w1 hS1 => ?_, ?_⟩; (focus (skip; go_simp; with_reducible rfl)); simp only [Act.put, List.setIfInBounds_toArray, List.set_cons_zero, List.set_cons_succ]))
      refine TxtBL.callB (by rfl) (by rfl) ?_
      apply Exists.intro; apply Exists.intro
      refine ⟨fun w1 hS1 => ?_, ?_⟩
      focus (go_simp; first | with_reducible rfl | exact ⟨rfl, rfl⟩)
      refine ⟨.bool (inB (illL n l a) i), fun w1 hS1 hJ1 => ?_, ?_⟩
      · have H9 := (in_any A92 (illL n l cl') c92 i w1 (by omega) hJ1.head).mono fun e w' h => h.quiet.below
        rw [Hq.out] at H9
        exact H9
      simp only [Act.put, List.setIfInBounds_toArray, List.set_cons_zero, List.set_cons_succ]
      repeat (first
        | (refine TxtBL.skip (by rfl) ?_; simp only [Act.put, List.setIfInBounds_toArray, List.set_cons_zero, List.set_cons_succ])
        | (refine TxtBL.take (by rfl) (by rfl) ?_; apply Exists.intro; refine ⟨fun w1 hS1 => ?_, ?_⟩; (focus (skip; go_simp; with_reducible rfl)); simp only [Act.put, List.setIfInBounds_toArray, List.set_cons_zero, List.set_cons_succ])
        | (refine TxtBL.takeE (by rfl) (by rfl) ?_; apply Exists.intro; refine ⟨fun w1 hS1 => ?_, ?_⟩; (focus (skip; go_simp; with_reducible rfl)); simp only [Act.put, List.setIfInBounds_toArray, List.set_cons_zero, List.set_cons_succ]))
      refine TxtBL.nil (fun W3 hS3 _ => ?_)
      have hbl3 := endB hblq hS3
      clear e0 e1 hr2 hT2 hra2
      go_wp2_with fail
      go_roundw
      case rel => exact ⟨i + 1, by omega, by go_num, hbl3⟩
      case measure => simp [intOf]; omega
end Go.Proofs.YtiljbfeipfdmdaaDoor
