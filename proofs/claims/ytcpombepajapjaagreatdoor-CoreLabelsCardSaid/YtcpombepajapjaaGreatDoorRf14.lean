/- The reference's search for complete labellings: settled, extend, Complete. -/
import Derived.Test.YtcpombepajapjaaGreatDoorLb
import Derived.Test.YtcpombepajapjaaGreatDoorSch4
namespace Go.Proofs.YtcpombepajapjaaGreatDoor
open Go.ChangeShapes Go.WideShapes Go.ChangeAt Go.RowKit

/-- node k and its attackers are among the labelled ones -/
def knB (l : List (Int × Int)) (m : Nat) (k : Int) : Bool := decide (k < (m : Int)) && (attackersL l k).all fun a => decide (a < (m : Int))
theorem sett_kn (n : Nat) (l : List (Int × Int)) (s : List Int) : settB n l s = (illL n l (padL n s)).all fun k => !knB l s.length k := rfl
theorem pad_snoc {s : List Int} {j : Nat} : s ++ List.replicate j (3 : Int) ++ [3] = s ++ List.replicate (j + 1) 3 := by rw [List.append_assoc, List.replicate_succ']
theorem ill_len (n : Nat) (l : List (Int × Int)) (x : List Int) : (illL n l x).length ≤ n := by
  unfold illL
  split
  · exact nodesB_length ..
  · simp
theorem ill_mem {n : Nat} {l : List (Int × Int)} {x : List Int} {k : Int} (h : k ∈ illL n l x) : ∃ i : Nat, k = i ∧ i < n := by
  unfold illL at h
  split at h
  · obtain ⟨i, hi, _, rfl⟩ := mem_nodesB.1 h; exact ⟨i, rfl, hi⟩
  · cases h

set_option maxRecDepth 100000 in
set_option maxHeartbeats 8000000 in
theorem settled_any (A : Option Addr) (n : Nat) (l : List (Int × Int)) (c : Nat) (B : Option Addr) (s : List Int) (cs : Nat) (w : World) (hr : RP w A l) (hv : Vld n l) (hx : RI w B s) (hB : B = none → s = [] ∧ cs = 0) (hs : s.length ≤ n) (hT : Tab w) :
    Calls Tryz.prog 75 #[.agg #[.int .i64 (n : Int), .slice A l.length c], .slice B s.length cs] w (RetB (.bool (settB n l s)) w) := by
  have hn := hv.1.1
  have hlen := hv.1.2.1
  have hgl : nGl n l = l := by unfold nGl; rw [hv.valE]; rfl
  have Hgl := Lib.hid hgl
  clear hgl
  go_enter Tryz.func75, Tryz.ntmps75
  go_upto_region 1 with fail
  obtain ⟨W0, hW, c0, c1, hb0, hlt0⟩ := boxed w 24 (.int .i64 (n : Int)) (.slice A l.length c)
  rw [hW]
  clear hW
  have hx0 := hx.below hb0
  have d0 := ((newB W0 (.cells #[] 3)).cell (lt_of_cell c0)).trans c0
  go_wp2_with (at_builtin; refine wpList_appIs (by rfl) _ _ (by rfl) (W0.alloc (.cells #[] 3)) W0.heap.size _ [] B s cs (own_empty W0) (hx0.below (newB _ _)) hB (by rfl) (by rfl) (by simp; omega) (by simp) ?_; intro v7 w7 ho7 hb7 hg7; (have hb7' : Below W0.heap.size W0 w7 := ((Below.refl _ _).alloc (Nat.le_refl _) _).trans hb7); simp only [List.nil_append] at ho7; have Ho7 := Lib.hid ho7; have Hb7 := Lib.hid hb7'; clear ho7 hb7 hg7 hb7' d0)
  go_loopw [5] (fun u wr => ∃ j : Nat, s.length + j ≤ n ∧ OwnI wr W0.heap.size u (s ++ List.replicate j 3) ∧ Below W0.heap.size W0 wr) (fun u _ => n - lenOf u)
  case atStart => exact ⟨0, hs, by simpa using Ho7.out, Hb7.out⟩
  case round =>
    obtain ⟨j, hj, hown, hbl⟩ := hrel
    clear Ho7 Hb7
    obtain ⟨A5, c5, rfl, _, _⟩ := hown.form
    have hle : (s ++ List.replicate j (3 : Int)).length = s.length + j := by simp
    rw [hle] at hown ⊢
    have e0 := (hbl.cell (lt_of_cell c0)).trans c0
    have e1 := (hbl.cell (lt_of_cell c1)).trans c1
    have Hown := Lib.hid hown; have Hle := Lib.hid hle
    clear hown hle
    by_cases hjn : s.length + j < n
    case pos =>
      have hjn' : (s.length : Int) + (j : Int) < (n : Int) := by omega
      have hl6 : (s ++ List.replicate j (3 : Int)).length ≤ 1000000 := by rw [Hle.out]; omega
      go_wp2_with (at_builtin; refine wpList_appI (by rfl) _ _ (by rfl) wr W0.heap.size _ _ 3 Hown.out (by rfl) (by rfl) hl6 hbl.size ?_; intro v' w4 hown' hb4 hg4)
      go_roundw
      case rel => exact ⟨j + 1, by omega, by rw [← pad_snoc]; exact hown', hbl.trans hb4⟩
      case measure =>
        obtain ⟨A6, c6, rfl, _, _⟩ := OwnI.form hown'
        simp only [lenOf, List.length_append, List.length_replicate, List.length_singleton]; omega
    case neg =>
    have hjn2 : s.length + j = n := by omega
    have hjn' : ¬ (s.length : Int) + (j : Int) < (n : Int) := by omega
    have hpad : s ++ List.replicate j (3 : Int) = padL n s := by unfold padL; rw [show n - s.length = j by omega]
    have hown := Hown.out
    rw [hpad] at hown
    rw [hjn2] at hown ⊢
    clear hjn'
    have hjn' : ¬ (n : Int) < (n : Int) := by omega
    have hpl : (padL n s).length = n := by rw [← hpad, Hle.out, hjn2]
    have hill := r11Illegal_any A n l c A5 (padL n s) c5 wr (hr.below (endB hb0 hbl)) hv (by obtain ⟨A6, c6, e, hr6, _⟩ := hown.form; injection e with e1; subst e1; exact hr6) (by omega) (hT.below (endB hb0 hbl))
    rw [hpl] at hill
    have hwl : (illL n l (padL n s)).length ≤ n := ill_len ..
    have hwm : ∀ k ∈ illL n l (padL n s), ∃ i : Nat, k = i ∧ i < n := fun k hk => ill_mem hk
    have hset := sett_kn n l s
    obtain ⟨wl, hwd⟩ : ∃ wl, illL n l (padL n s) = wl := ⟨_, rfl⟩
    rw [hwd] at hill hwl hwm hset
    have Hill := Lib.hid hill; have Hwm := Lib.hid hwm; have Hset := Lib.hid hset
    clear hill hwm hset hwd hpl hown Hown Hle hpad hjn2
    have hx1 := hx.below (endB hb0 hbl)
    go_wp2_with fail
    refine Hill.out.mono ?_
    rintro e w8 ⟨A8, c8, rfl, _, hr8, _, hb8⟩
    have hbw8 : Below W0.heap.size W0 w8 := hbl.trans (hb8.mono hbl.size)
    clear hb8 e0 e1
    go_wp2_with fail
    clear hjn
    go_loopw [7] (fun j wr => ∃ k : Nat, k ≤ wl.length ∧ j = .int .i64 k ∧ ((wl.take k).all fun k => !knB l s.length k) = true ∧ Below w8.heap.size w8 wr) (fun j _ => wl.length - (intOf j).toNat)
    case atStart => exact ⟨0, Nat.zero_le _, rfl, by simp, Below.refl _ _⟩
    case round =>
      obtain ⟨k, hk, rfl, hgood, hbk⟩ := hrel
      have Hgood := Lib.hid hgood
      clear hgood
      have hbwk : Below W0.heap.size W0 wr := hbw8.trans (hbk.mono hbw8.size)
      have e0 := (hbwk.cell (lt_of_cell c0)).trans c0
      have e1 := (hbwk.cell (lt_of_cell c1)).trans c1
      by_cases hkl : k < wl.length
      case neg =>
        have hfull : (wl.take k) = wl := List.take_of_length_le (by omega)
        have H := Lib.hid (show settB n l s = true by rw [Hset.out, ← hfull]; exact Hgood.out)
        clear hfull
        go_wp2_with fail
        go_ret
        exact ⟨rb H.out.symm, endB hb0 hbwk⟩
      case pos =>
      obtain ⟨b, o, rfl, hc8⟩ := (hr8.below hbk).at_ hkl
      obtain ⟨i, hi, hin⟩ := Hwm.out _ (List.getElem_mem hkl)
      rw [hi] at hc8
      have hkl' : (k : Int) < (wl.length : Int) := by omega
      have hk0 : (0 : Int) ≤ (k : Int) := by omega
      have hrk := hr.below (endB hb0 hbwk)
      have Hi := Lib.hid hi
      clear hi
      obtain ⟨wo, hwo⟩ : ∃ wo, wo = wr := ⟨_, rfl⟩
      subst hwo
      obtain ⟨al, hal⟩ : ∃ al, attackersL l (i : Int) = al := ⟨_, rfl⟩
      have Hal := Lib.hid hal
      have hall : al.length ≤ 100000 := by rw [← hal]; exact Nat.le_trans (attackersL_len l (i : Int)) hlen
      clear hal
      obtain ⟨q0, hq0⟩ : ∃ q0, decide (i < s.length) = q0 := ⟨_, rfl⟩
      have Hq0 := Lib.hid hq0
      go_wp2_with fail
      refine wp_region_textB [5] (SB wo) (RIs []) (by kernel_rfl) (by kernel_rfl) (by kernel_rfl) (Below.refl _ _).drew (RIs.nil _) ?_
      clear hq0
      repeat (first
        | (refine TxtBL.skip (by rfl) ?_; simp only [Act.put, List.setIfInBounds_toArray, List.set_cons_zero, List.set_cons_succ])
        | (refine TxtBL.take (by rfl) (by rfl) ?_; apply Exists.intro; refine ⟨fun w1 hS1 => ?_, ?_⟩; (focus ((have g0 := (hS1.cell (lt_of_cell e0)).trans e0); (have g1 := (hS1.cell (lt_of_cell e1)).trans e1); (have g2 := (hS1.cell (lt_of_cell hc8)).trans hc8); go_simp; with_reducible rfl)); simp only [Act.put, List.setIfInBounds_toArray, List.set_cons_zero, List.set_cons_succ])
        | (refine TxtBL.takeE (by rfl) (by rfl) ?_; apply Exists.intro; refine ⟨fun w1 hS1 => ?_, ?_⟩; (focus ((have g0 := (hS1.cell (lt_of_cell e0)).trans e0); (have g1 := (hS1.cell (lt_of_cell e1)).trans e1); (have g2 := (hS1.cell (lt_of_cell hc8)).trans hc8); go_simp; with_reducible rfl)); simp only [Act.put, List.setIfInBounds_toArray, List.set_cons_zero, List.set_cons_succ]))
      refine TxtBL.callI (by rfl) (by rfl) ?_
      apply Exists.intro; apply Exists.intro
      refine ⟨fun w1 hS1 => ?_, ?_⟩
      focus (go_simp; first | with_reducible rfl | exact ⟨rfl, rfl⟩)
      refine ⟨al, fun w1 hS1 hJ1 => ?_, fun A91 c91 => ?_⟩
      · have H9 := r10Attackers_any A n l c (i : Int) w1 (hrk.below hS1) hlen
        rw [Hgl.out, Hal.out] at H9
        exact H9
      simp only [Act.put, List.setIfInBounds_toArray, List.set_cons_zero, List.set_cons_succ]
      repeat (first
        | (refine TxtBL.skip (by rfl) ?_; simp only [Act.put, List.setIfInBounds_toArray, List.set_cons_zero, List.set_cons_succ])
        | (refine TxtBL.take (by rfl) (by rfl) ?_; apply Exists.intro; refine ⟨fun w1 hS1 => ?_, ?_⟩; (focus (skip; go_simp; with_reducible rfl)); simp only [Act.put, List.setIfInBounds_toArray, List.set_cons_zero, List.set_cons_succ])
        | (refine TxtBL.takeE (by rfl) (by rfl) ?_; apply Exists.intro; refine ⟨fun w1 hS1 => ?_, ?_⟩; (focus (skip; go_simp; with_reducible rfl)); simp only [Act.put, List.setIfInBounds_toArray, List.set_cons_zero, List.set_cons_succ]))
      refine TxtBL.nil (fun W3 hS3 hJ3 => ?_)
      have hri := hJ3.head
      have hb3 : Below W0.heap.size W0 W3 := hbwk.trans (hS3.mono hbwk.size)
      clear hJ3
      go_wp2_with fail
      go_loopw [8, 45] (fun b8 j wr => ∃ q : Nat, q ≤ al.length ∧ j = .int .i64 q ∧ b8 = .bool (q0 && (al.take q).all fun a => decide (a < (s.length : Int))) ∧ Below W3.heap.size W3 wr) (fun _ j _ => al.length - (intOf j).toNat)
      case atStart => exact ⟨0, Nat.zero_le _, rfl, by simp, Below.refl _ _⟩
      case round =>
        obtain ⟨q, hq, rfl, rfl, hbq⟩ := hrel
        obtain ⟨kb, hkb⟩ : ∃ kb, (q0 && (al.take q).all fun a => decide (a < (s.length : Int))) = kb := ⟨_, rfl⟩
        rw [hkb]
        have Hkb := Lib.hid hkb
        clear hkb
        have hbw : Below W0.heap.size W0 wr := hb3.trans (hbq.mono hb3.size)
        by_cases hql : q < al.length
        case pos =>
          obtain ⟨b2, o2, rfl, hc9⟩ := (hri.below hbq).at_ hql
          have hql' : (q : Int) < (al.length : Int) := by omega
          have hq0' : (0 : Int) ≤ (q : Int) := by omega
          have Hst := Lib.hid (show (q0 && (al.take (q + 1)).all fun a => decide (a < (s.length : Int))) = (kb && decide (al[q] < (s.length : Int))) by
            rw [List.take_succ_eq_append_getElem hql, List.all_append, ← Bool.and_assoc, Hkb.out]; simp)
          obtain ⟨z, hz⟩ : ∃ z, decide (al[q] < (s.length : Int)) = z := ⟨_, rfl⟩
          have Hz := Lib.hid hz; have Hql := Lib.hid (show q + 1 ≤ al.length ∧ al.length - (q + 1) < al.length - q by omega)
          cases kb
          · go_wp2_with fail
            go_roundw
            case rel => exact ⟨q + 1, Hql.out.1, by go_num, by rw [Hst.out, Bool.false_and], hbq⟩
            case measure => simp [intOf]; omega
          · go_wp2_with fail
            go_roundw
            case rel => exact ⟨q + 1, Hql.out.1, by go_num, by rw [Hst.out, Hz.out, Bool.true_and], hbq⟩
            case measure => simp [intOf]; omega
        case neg =>
        have hfin : knB l s.length (i : Int) = kb := by
          rw [← Hkb.out, List.take_of_length_le (by omega), ← Hq0.out, ← Hal.out]
          unfold knB
          congr 1
          simp
        have Hfin := Lib.hid hfin
        clear hfin
        cases kb
        · have Hnx := Lib.hid (show ((wl.take (k + 1)).all fun k => !knB l s.length k) = true by
            rw [List.take_succ_eq_append_getElem hkl, List.all_append, Hgood.out, Hi.out]; simp [Hfin.out])
          go_wp2_with fail
          go_roundw
          case rel => exact ⟨k + 1, by omega, by go_num, Hnx.out, hbk.trans ((hS3.trans (hbq.mono hS3.size)).mono hbk.size)⟩
          case measure => simp [intOf]; omega
        · have H := Lib.hid (show settB n l s = false by
            rw [Hset.out, List.all_eq_false]
            exact ⟨wl[k], List.getElem_mem hkl, by rw [Hi.out, Hfin.out]; simp⟩)
          go_wp2_with fail
          go_ret
          exact ⟨rb H.out.symm, endB hb0 hbw⟩

/-- found's row may have grown, or lie elsewhere; all else is as it was -/
theorem grown_led {a b c : World} {v v' : Value} (h : a.grownBy b v.ownBlock) (hl : Led a v v') (k : b.grownBy c v'.ownBlock) : a.grownBy c v.ownBlock :=
  ⟨k.os.trans h.os, k.tape.trans h.tape, k.output.trans h.output, Nat.le_trans h.size k.size, fun i hi hv => (k.block i (Nat.lt_of_lt_of_le hi h.size) (fun e => by
    rcases hl with hl | hl
    · exact hv (e.trans hl)
    · have := hl i e.symm; omega)).trans (h.block i hi hv)⟩
theorem below_own {W a b : World} {v : Value} {B : Nat} {xs : List Value} (h : Below W.heap.size W a) (ho : OwnS a B v xs) (hB : W.heap.size ≤ B) (hg : a.grownBy b v.ownBlock) : Below W.heap.size W b :=
  ⟨hg.os.trans h.os, hg.tape.trans h.tape, hg.output.trans h.output, Nat.le_trans h.size hg.size, fun k hk => (hg.block k (Nat.lt_of_lt_of_le hk h.size) (fun e => by have := (World.ownsRow.lt ho k e.symm).1; omega)).trans (h.block k hk)⟩

/-- the call returns the lists so far and those that it finds, up to 201 -/
def RetEx (ls F : List (List Int)) (v : Value) (B : Nat) (w : World) : Ending → World → Prop := fun e w' => ∃ A' c' xs', e = .returned (.slice A' (capL 201 F ls).length c') ∧ Fou w' B (.slice A' (capL 201 F ls).length c') xs' (capL 201 F ls) ∧ w.grownBy w' v.ownBlock ∧ Led w v (.slice A' (capL 201 F ls).length c')

set_option maxRecDepth 100000 in
set_option maxHeartbeats 8000000 in
theorem extend_any (W : World) (A : Option Addr) (n : Nat) (l : List (Int × Int)) (c : Nat) (hr : RP W A l) (hv : Vld n l) (hT : Tab W) (B : Nat) (hB : W.heap.size ≤ B) : ∀ (m : Nat) (s : List Int) (v : Value) (xs : List Value) (F : List (List Int)) (w : World) (Bs : Option Addr) (cs : Nat),
    n - s.length ≤ m → s.length ≤ n → (∀ x ∈ s, 1 ≤ x ∧ x ≤ 3) → Below W.heap.size W w → B ≤ w.heap.size → Fou w B v xs F → F.length ≤ 201 → OwnI w 0 (.slice Bs s.length cs) s →
    Calls Tryz.prog 59 #[.agg #[.int .i64 (n : Int), .slice A l.length c], v, .slice Bs s.length cs] w (RetEx (prefL n l s) F v B w) := by
  intro m
  induction m using Nat.strongRecOn
  rename_i m ih
  intro s v xs F w Bs cs hm hsn hs hW hBw hfo hF hso
  have hn := hv.1.1
  obtain ⟨AV, cV, rfl, _⟩ := OwnS.forms hfo.s hfo.l
  have Hfo := Lib.hid hfo; have Hso := Lib.hid hso; have Hs := Lib.hid hs; have HW := Lib.hid hW; have Hm := Lib.hid hm
  clear hfo hso hs hW hm
  by_cases hfull : F.length = 201
  case pos =>
    have Hend := Lib.hid (capL_full (a := prefL n l s) hfull)
    have hfl : (200 : Int) < (F.length : Int) := by omega
    have hd : decide ((200 : Int) < (F.length : Int)) = true := by rw [decide_eq_true_iff]; exact hfl
    clear hfull
    go_enter Tryz.func59, Tryz.ntmps59
    go_upto_region 1 with fail
    obtain ⟨W0, hW0, c0, c1, hb0, hlt0⟩ := boxed w 24 (.int .i64 (n : Int)) (.slice A l.length c)
    rw [hW0]
    clear hW0
    go_wp2_with fail
    go_ret
    refine ⟨AV, cV, xs, ?_, ?_, ?_, ?_⟩
    · rw [Hend.out]; rfl
    · rw [Hend.out]; exact Hfo.out.below hb0
    · exact grownBy_of_below hb0 _
    · rw [Hend.out]; exact Led.refl ..
  case neg =>
  have hd : decide ((200 : Int) < (F.length : Int)) = false := by rw [decide_eq_false_iff_not]; omega
  have hfl : ¬ (200 : Int) < (F.length : Int) := by omega
  have hlt201 : F.length < 201 := by omega
  clear hfull
  go_enter Tryz.func59, Tryz.ntmps59
  go_upto_region 1 with fail
  obtain ⟨W0, hW0, c0, c1, hb0, hlt0⟩ := boxed w 24 (.int .i64 (n : Int)) (.slice A l.length c)
  rw [hW0]
  clear hW0
  have hWW : Below W.heap.size W W0 := endB HW.out hb0
  have hso0 : OwnI W0 0 (.slice Bs s.length cs) s := OwnI.below Hso.out hb0
  have hfo0 := Hfo.out.below hb0
  have hnil : Bs = none → s = [] ∧ cs = 0 := fun e => by
    obtain ⟨A9, c9, e9, _, h9⟩ := hso0.form2
    injection e9 with e1 _ e3
    subst e1 e3
    exact h9 e
  have hri0 : RI W0 Bs s := hso0.ri
  have hsett := settled_any A n l c Bs s cs W0 (hr.below hWW) hv hri0 hnil hsn (hT.below hWW)
  have Hsett := Lib.hid hsett; have Hfo0 := Lib.hid hfo0; have Hso0 := Lib.hid hso0; have HWW := Lib.hid hWW; have Hnil := Lib.hid hnil
  clear hsett hfo0 hso0 hWW hnil
  have hBW0 : B ≤ W0.heap.size := Nat.le_trans hBw hb0.size
  go_wp2_with fail
  refine Hsett.out.mono ?_
  rintro e w1 ⟨rfl, hb1⟩
  have hfo1 := Hfo0.out.below hb1
  have hso1 : OwnI w1 0 (.slice Bs s.length cs) s := OwnI.below Hso0.out hb1
  have hb01 := endB hb0 hb1
  have hWW1 := endB HWW.out hb1
  have d0 := (hb1.cell (lt_of_cell c0)).trans c0
  have d1 := (hb1.cell (lt_of_cell c1)).trans c1
  have hB1 : B ≤ w1.heap.size := Nat.le_trans hBW0 hb1.size
  have hG1 : w.heap.size < w1.heap.size := Nat.lt_of_lt_of_le hlt0 hb1.size
  have Hfo1 := Lib.hid hfo1; have Hso1 := Lib.hid hso1; have Hb01 := Lib.hid hb01; have HWW1 := Lib.hid hWW1
  clear hfo1 hso1 hb01 hWW1 c0 c1 hri0 hd hfl
  obtain ⟨q, hq⟩ : ∃ q, settB n l s = q := ⟨_, rfl⟩
  rw [hq]
  have Hq := Lib.hid hq
  clear hq
  cases q
  case false =>
    have Hend := Lib.hid (show capL 201 F (prefL n l s) = F by rw [pref_not hv.1 Hs.out hsn Hq.out]; exact capL_nil hF)
    go_wp2_with fail
    go_ret
    refine ⟨AV, cV, xs, ?_, ?_, ?_, ?_⟩
    · rw [Hend.out]; rfl
    · rw [Hend.out]; exact Hfo1.out
    · exact grownBy_of_below Hb01.out _
    · rw [Hend.out]; exact Led.refl ..
  case true =>
  by_cases hsl : s.length = n
  case pos =>
    have hd : ((s.length : Int) == (n : Int)) = true := by rw [hsl]; simp
    have Hend := Lib.hid (show capL 201 F (prefL n l s) = F ++ [s] by rw [pref_end hv.1 Hs.out hsl Hq.out]; exact capL_one hlt201)
    have Hsl := Lib.hid hsl
    clear hsl
    have hri1 := OwnI.ri Hso1.out
    have hxl : xs.length ≤ 1000000 := by rw [Hfo1.out.len]; omega
    go_wp2_with (first
      | (at_builtin; refine wpList_appIs (by rfl) (.tmp 24) (.tmp 25) (by rfl) (w1.alloc (.cells #[] 3)) w1.heap.size _ [] Bs s cs (own_empty w1) (hri1.below (newB _ _)) Hnil.out (by rfl) (by rfl) (by simp; omega) (by simp) ?_; intro v7 w7 ho7 hb7 hg7; (have hb7' : Below w1.heap.size w1 w7 := ((Below.refl _ _).alloc (Nat.le_refl _) _).trans hb7); simp only [List.nil_append] at ho7; (obtain ⟨A7, c7, rfl, _, _⟩ := OwnI.form ho7); (have hfo7 := Hfo1.out.below hb7'); (have hB7 := Nat.le_trans hB1 hb7'.size); (have ho7b : OwnI w7 B (.slice A7 s.length c7) s := OwnI.mono ho7 hB1); have Ho7 := Lib.hid ho7b; have Hfo7 := Lib.hid hfo7; have Hb7 := Lib.hid hb7'; clear ho7 hb7 hg7 hb7' hfo7 ho7b)
      | (at_builtin; refine wpList_appS2 (by rfl) (.tmp 23) (.tmp 27) (by rfl) w7 B _ xs A7 s.length c7 Hfo7.out.s (by rfl) (by rfl) (by rfl) hxl hB7 ?_; intro v8 w8 hown8 hb8 hg8 hled8; (have hol8 : OwnL w8 B (xs ++ [.slice A7 s.length c7]) (F ++ [s]) := (Hfo7.out.l.append Hfo7.out.s hg8).snoc (World.ownsRow.kept Ho7.out hg8 (Ho7.out.apart Hfo7.out.s))); (obtain ⟨A8, c8, rfl, _⟩ := OwnS.forms hown8 hol8); have Hown8 := Lib.hid hown8; have Hol8 := Lib.hid hol8; have Hg8 := Lib.hid hg8; have Hled8 := Lib.hid hled8; clear hown8 hol8 hb8 hg8 hled8))
    go_ret
    refine ⟨A8, c8, xs ++ [.slice A7 s.length c7], ?_, ?_, ?_, ?_⟩
    · rw [Hend.out]; simp
    · rw [Hend.out]; exact ⟨Hown8.out, Hol8.out⟩
    · exact grown_led (grownBy_of_below (endB Hb01.out Hb7.out) _) (Led.refl ..) Hg8.out
    · rw [Hend.out]; exact (Led.refl w _).trans (endB Hb01.out Hb7.out).size Hled8.out
  case neg =>
    have hd : ((s.length : Int) == (n : Int)) = false := by rw [beq_eq_false_iff_ne]; omega
    have hslt : s.length < n := by omega
    have hbr := pref_split (l := l) Hs.out hslt
    obtain ⟨brs, hbrs⟩ : ∃ brs, [prefL n l (s ++ [1]), prefL n l (s ++ [2]), prefL n l (s ++ [3])] = brs := ⟨_, rfl⟩
    have hlen3 : brs.length = 3 := by rw [← hbrs]; rfl
    have hat : ∀ k (h : k < brs.length), brs[k] = prefL n l (s ++ [1 + (k : Int)]) := fun k h => by
      subst hbrs
      match k, h with
      | 0, _ => rfl
      | 1, _ => rfl
      | 2, _ => rfl
    have hstep : ∀ k, k < 3 → (brs.take (k + 1)).flatten = (brs.take k).flatten ++ prefL n l (s ++ [1 + (k : Int)]) := fun k h => by
      rw [List.take_succ_eq_append_getElem (by omega), List.flatten_append, hat]; simp
    have hlast : (brs.take 3).flatten = prefL n l s := by rw [List.take_of_length_le (by omega), ← hbrs, hbr]; simp
    have hzero : (brs.take 0).flatten = [] := by simp
    have Hstep := Lib.hid hstep; have Hlast := Lib.hid hlast; have Hzero := Lib.hid hzero
    clear hstep hlast hzero hat hlen3 hbrs hbr hsl
    have hvB : ∀ k, (Value.slice AV F.length cV).ownBlock = some k → B ≤ k ∧ k < w1.heap.size := OwnS.up Hfo1.out.s
    have HvB := Lib.hid hvB
    clear hvB
    go_wp2_with fail
    have hGv : some w.heap.size ≠ (Value.slice AV F.length cV).ownBlock := fun e => by
      have := (OwnS.up Hfo.out.s w.heap.size e.symm).2; omega
    have HGv := Lib.hid hGv
    clear hGv
    generalize hGG : w.heap.size = G at *
    go_loopw [1, 7] (fun u j wr => ∃ (t : Nat) (xs' : List Value) (A' : Option Addr) (c' : Nat), t ≤ 3 ∧ j = .int .i64 (1 + (t : Int)) ∧ u = .slice A' (capL 201 F (brs.take t).flatten).length c' ∧ Fou wr B u xs' (capL 201 F (brs.take t).flatten) ∧ w1.grownBy wr (Value.slice AV F.length cV).ownBlock ∧ Led w1 (Value.slice AV F.length cV) u) (fun _ j _ => 4 - (intOf j).toNat)
    case atStart => exact ⟨0, xs, AV, cV, by omega, rfl, by rw [Hzero.out, capL_nil hF], by rw [Hzero.out, capL_nil hF]; exact Hfo1.out, grownBy_refl _ _, Led.refl ..⟩
    case round =>
      obtain ⟨t, xs', A', c', ht, rfl, rfl, hfo, hg, hled⟩ := hrel
      have Hfo2 := Lib.hid hfo; have Hg := Lib.hid hg; have Hled := Lib.hid hled
      clear hfo hg hled
      by_cases ht3 : t < 3
      case neg =>
        obtain rfl : t = 3 := by omega
        go_wp2_with fail
        go_ret
        have h1 := Hfo2.out
        rw [Hlast.out] at h1 ⊢
        refine ⟨A', c', xs', rfl, h1, grown_led (grownBy_of_below (by rw [hGG]; exact Hb01.out) _) (Led.refl ..) Hg.out, ?_⟩
        have h2 := Hled.out
        rw [Hlast.out] at h2
        exact (Led.refl w _).trans Hb01.out.size h2
      case pos =>
      have ht3' : (1 : Int) + (t : Int) ≤ 3 := by omega
      obtain ⟨Ft, hFt⟩ : ∃ Ft, capL 201 F (brs.take t).flatten = Ft := ⟨_, rfl⟩
      have hFt1 : Ft.length ≤ 201 := by rw [← hFt]; exact capL_len
      have hnext : capL 201 Ft (prefL n l (s ++ [1 + (t : Int)])) = capL 201 F (brs.take (t + 1)).flatten := by rw [← hFt, capL_cap, ← Hstep.out t ht3]
      obtain ⟨Fn, hFn⟩ : ∃ Fn, capL 201 F (brs.take (t + 1)).flatten = Fn := ⟨_, rfl⟩
      rw [hFn] at hnext
      have HFn := Lib.hid hFn; have Hnext := Lib.hid hnext
      rw [hFt] at Hfo2 Hled ⊢
      clear hFt hFn hnext
      have hsr : OwnI wr 0 (.slice Bs s.length cs) s := World.ownsRow.kept Hso1.out Hg.out (Hso1.out.apart Hfo1.out.s)
      have hWr : Below W.heap.size W wr := below_own HWW1.out Hfo1.out.s hB Hg.out
      have hBr : B ≤ wr.heap.size := Nat.le_trans hB1 Hg.out.size
      have e0 := Hg.out.cell d0 HGv.out
      have e1 := Hg.out.cell d1 HGv.out
      have hGt : some G ≠ (Value.slice A' Ft.length c').ownBlock := fun e => by
        rcases Hled.out with h | h
        · exact HGv.out (e.trans h)
        · have := h G e.symm; omega
      have hlab : ∀ x ∈ s ++ [1 + (t : Int)], 1 ≤ x ∧ x ≤ 3 := fun x hx => by
        rcases List.mem_append.1 hx with h | h
        · exact Hs.out x h
        · rw [List.mem_singleton] at h; omega
      have hl1 : (s ++ [1 + (t : Int)]).length = s.length + 1 := by simp
      have hm1 : n - (s.length + 1) < m := by have := Hm.out; omega
      have hcap := OwnI.cap hsr
      have hx6 : s.length ≤ 1000000 := by omega
      have hrr := OwnI.ri hsr
      have Hlab := Lib.hid hlab; have Hl1 := Lib.hid hl1; have HWr := Lib.hid hWr; have HGt := Lib.hid hGt; have Hrr := Lib.hid hrr
      clear hlab hl1 hWr hGt hsr hrr
      have hcall : ∀ (w2 : World) (A9 : Option Addr) (c9 : Nat), Below wr.heap.size wr w2 → OwnI w2 wr.heap.size (.slice A9 (s.length + 1) c9) (s ++ [1 + (t : Int)]) →
          Calls Tryz.prog 59 #[.agg #[.int .i64 (n : Int), .slice A l.length c], .slice A' Ft.length c', .slice A9 (s.length + 1) c9] w2 (RetEx (prefL n l (s ++ [1 + (t : Int)])) Ft (.slice A' Ft.length c') B w2) := fun w2 A9 c9 hb ho => by
        have := ih (n - (s.length + 1)) hm1 (s ++ [1 + (t : Int)]) (.slice A' Ft.length c') xs' Ft w2 A9 c9 (by rw [Hl1.out]; exact Nat.le_refl _) (by rw [Hl1.out]; exact hslt) Hlab.out (endB HWr.out hb) (Nat.le_trans hBr hb.size) (Hfo2.out.below hb) hFt1 (by rw [Hl1.out]; exact OwnI.mono ho (Nat.zero_le _))
        rw [Hl1.out] at this
        exact this
      have Hcall := Lib.hid hcall
      clear hcall d0 d1
      have hcap2 : (s.length : Int) ≤ (cs : Int) := by omega
      go_wp2_with fail
      refine wp_region_textZ [9, 10, 11, 12] (fun w' => w'.cell? ⟨G, 0, none⟩ = some (.int .i64 (n : Int)) ∧ w'.cell? ⟨G, 1, none⟩ = some (.slice A l.length c)) (fun w' => Below wr.heap.size wr w') (by kernel_rfl) (by kernel_rfl) (by kernel_rfl) (by kernel_rfl) ⟨e0, e1⟩ (Below.refl _ _).drew ?_
      repeat (first
        | (refine TxtZL.skip (by rfl) ?_; simp only [Act.put, List.setIfInBounds_toArray, List.set_cons_zero, List.set_cons_succ])
        | (refine TxtZL.take (by rfl) (by rfl) ?_; apply Exists.intro; refine ⟨fun w1 hS1 => ?_, ?_⟩; (focus ((have g0 := hS1.1); (have g1 := hS1.2); go_simp; with_reducible rfl)); simp only [Act.put, List.setIfInBounds_toArray, List.set_cons_zero, List.set_cons_succ])
        | (refine TxtZL.takeE' (by rfl) (by rfl) ?_; apply Exists.intro; refine ⟨fun w1 hS1 => ?_, ?_⟩; (focus ((have g0 := hS1.1); (have g1 := hS1.2); go_simp; with_reducible rfl)); simp only [Act.put, List.setIfInBounds_toArray, List.set_cons_zero, List.set_cons_succ]))
      refine TxtZL.value (fun u => ∃ q, u = Value.slice (some ⟨q, 0, none⟩) 1 1) (fun u w' => ∃ X, w' = X.alloc (.cells #[.int .i64 (1 + (t : Int))] 3) ∧ u = Value.slice (some ⟨X.heap.size, 0, none⟩) 1 1 ∧ Below wr.heap.size wr X ∧ X.cell? ⟨G, 0, none⟩ = some (.int .i64 (n : Int)) ∧ X.cell? ⟨G, 1, none⟩ = some (.slice A l.length c)) (by rfl) (by rfl) ⟨_, 0, rfl⟩ (fun w1' hS1 hJ1 => ?_) ?_
      · exact ⟨.slice (some ⟨w1'.heap.size, 0, none⟩) 1 1, w1'.alloc (.cells #[.int .i64 (1 + (t : Int))] 3), by go_simp, ⟨((newB _ _).cell (lt_of_cell hS1.1)).trans hS1.1, ((newB _ _).cell (lt_of_cell hS1.2)).trans hS1.2⟩, ⟨_, rfl⟩, w1', rfl, rfl, hJ1, hS1.1, hS1.2⟩
      rintro v42 ⟨q42, rfl⟩
      simp only [Act.put, List.setIfInBounds_toArray, List.set_cons_zero, List.set_cons_succ]
      refine TxtZL.eff (fun u => ∃ A9 c9, u = Value.slice A9 (s.length + 1) c9) (fun u w' => Below wr.heap.size wr w' ∧ OwnI w' wr.heap.size u (s ++ [1 + (t : Int)])) (by rfl) (by rfl) ⟨_, none, 0, rfl⟩ (fun w1' hS1 hJ1 => ?_) ?_
      · obtain ⟨X, rfl, hq, hX, hX0, hX1⟩ := hJ1
        injection hq with hq; injection hq with hq; injection hq with hq _ _; subst hq
        refine Eff.of_list (ops := #[]) (by rfl) ?_
        refine wpList_appCap (by rfl) _ _ (by rfl) X Bs s (1 + (t : Int)) (Hrr.out.below hX) (fun e => (Hnil.out e).1) rfl (by rfl) (by rfl) rfl hx6 ?_
        intro v' w' ho hb
        obtain ⟨A9, c9, e9, _, _⟩ := OwnI.form ho
        refine ⟨rfl, v', rfl, ⟨(hb.cell (lt_of_cell hX0)).trans hX0, (hb.cell (lt_of_cell hX1)).trans hX1⟩, ⟨A9, c9, by rw [e9, Hl1.out]⟩, endB hX hb, OwnI.mono ho hX.size⟩
      rintro v43 ⟨A9, c9, rfl⟩
      simp only [Act.put, List.setIfInBounds_toArray, List.set_cons_zero, List.set_cons_succ]
      refine TxtZL.call (f := 59) (args := #[.agg #[.int .i64 (n : Int), .slice A l.length c], .slice A' Ft.length c', .slice A9 (s.length + 1) c9]) (fun u => ∃ A6 c6, u = Value.slice A6 Fn.length c6) (fun u w' => ∃ xs6, Fou w' B u xs6 Fn ∧ wr.grownBy w' (Value.slice A' Ft.length c').ownBlock ∧ Led wr (Value.slice A' Ft.length c') u) (by rfl) (by rfl) ⟨_, none, 0, rfl⟩ (fun w1' hS1 hJ1 => by go_simp) (fun w1' hS1 hJ1 => ?_) ?_
      · refine (Hcall.out w1' A9 c9 hJ1.1 hJ1.2).mono ?_
        rintro e w' ⟨A6, c6, xs6, rfl, hf6, hg6, hl6⟩
        rw [Hnext.out] at hf6 hl6 ⊢
        exact ⟨_, rfl, ⟨hg6.cell hS1.1 HGt.out, hg6.cell hS1.2 HGt.out⟩, ⟨A6, c6, rfl⟩, xs6, hf6, grown_led (grownBy_of_below hJ1.1 _) (Led.refl ..) hg6, (Led.refl wr _).trans hJ1.1.size hl6⟩
      rintro v44 ⟨A6, c6, rfl⟩
      simp only [Act.put, List.setIfInBounds_toArray, List.set_cons_zero, List.set_cons_succ]
      refine TxtZL.takeE (by rfl) (by rfl) ⟨_, fun w1' hS1 => by go_simp; with_reducible rfl, ?_⟩
      simp only [Act.put, List.setIfInBounds_toArray, List.set_cons_zero, List.set_cons_succ]
      refine TxtZL.nil (fun w3 hJ3 => ?_)
      obtain ⟨xs6, hf6, hg6, hl6⟩ := hJ3
      have Hf6 := Lib.hid hf6; have Hg6 := Lib.hid hg6; have Hl6 := Lib.hid hl6
      clear hf6 hg6 hl6
      go_wp2_with fail
      go_roundw
      case rel => exact ⟨t + 1, xs6, A6, c6, by omega, by go_num, by rw [HFn.out], by rw [HFn.out]; exact Hf6.out, grown_led Hg.out Hled.out Hg6.out, Hled.out.trans Hg.out.size Hl6.out⟩
      case measure => simp [intOf]; omega

set_option maxRecDepth 100000 in
set_option maxHeartbeats 4000000 in
theorem r14Complete_any (A : Option Addr) (N : Int) (l : List (Int × Int)) (c : Nat) (w : World) (hr : RP w A l) (hlen : l.length ≤ 100000) (hT : Tab w) :
    Calls Tryz.prog 34 #[.agg #[.int .i64 N, .slice A l.length c]] w (RetLE (compR N l) w) := by
  go_enter Tryz.func34, Tryz.ntmps34
  go_wp2_with fail
  obtain ⟨W0, hW, c0, c1, hb0, hlt0⟩ := boxed w 24 (.int .i64 N) (.slice A l.length c)
  rw [hW]
  clear hW
  refine (r10Validate_any A N l c W0 (hr.below hb0) hlen).mono ?_
  rintro e w1 ⟨rfl, hb1⟩
  have hb01 := endB hb0 hb1
  by_cases hv : valE N l = 0
  case neg =>
    have hvb : (valE N l != 0) = true := by rw [bne_iff_ne]; exact hv
    have H := Lib.hid (compR_bad hv)
    clear hv
    go_wp2_with fail
    go_ret2
    rw [H.out]
    exact ⟨none, 0, rfl, RSo.nil _ _, fun _ => ⟨rfl, rfl⟩, hb01⟩
  case pos =>
  obtain ⟨n, rfl, hvl⟩ := vld_of_valE hv hlen
  have hvb : (valE n l != 0) = false := by rw [hv]; rfl
  have Hr := Lib.hid (compR_ok hv)
  clear hv
  have d0 := (hb1.cell (lt_of_cell c0)).trans c0
  have d1 := (hb1.cell (lt_of_cell c1)).trans c1
  have hex := extend_any w A n l c hr hvl hT w1.heap.size hb01.size n [] (.slice none 0 0) [] [] w1 none 0 (by simp) (by simp) (by simp) hb01 (Nat.le_refl _) ⟨OwnS.nil _ _, OwnL.nil _ _⟩ (by simp) (OwnI.nil _ _)
  rw [pref_nil] at hex
  have Hex := Lib.hid hex
  clear hex c0 c1
  go_wp2_with fail
  refine Hex.out.mono ?_
  rintro e w2 ⟨A', c', xs', rfl, hfo, hg, hled⟩
  have hbw : Below w.heap.size w w2 := below_own hb01 (OwnS.nil w1 w1.heap.size) hb01.size hg
  have Hbw := Lib.hid hbw; have Hfo := Lib.hid hfo
  clear hbw hfo hg hled
  by_cases hlim : 200 < (compL n l).length
  · have hd : (capL 201 [] (compL n l)).length = 201 := by unfold capL; rw [List.nil_append, List.length_take]; omega
    rw [hd]
    have Hc := Lib.hid (show compR n l = ([], 2) by rw [Hr.out, if_pos hlim])
    clear hlim hd
    go_wp2_with fail
    go_ret2
    rw [Hc.out]
    exact ⟨none, 0, rfl, RSo.nil _ _, fun _ => ⟨rfl, rfl⟩, Hbw.out⟩
  · have hcap : capL 201 [] (compL n l) = compL n l := by unfold capL; rw [List.nil_append, List.take_of_length_le (by omega)]
    have hfo := Hfo.out
    rw [hcap] at hfo ⊢
    have hle : ¬ (200 : Int) < ((compL n l).length : Int) := by omega
    have Hc := Lib.hid (show compR n l = (compL n l, 0) by rw [Hr.out, if_neg hlim])
    obtain ⟨A2, c2, e2, hrs, hnil⟩ := OwnS.forms2 hfo.s hfo.l
    injection e2 with e3 _ e4
    subst e3 e4
    have Hrs := Lib.hid hrs; have Hnil := Lib.hid hnil
    clear hlim hcap hrs hnil hfo
    go_wp2_with fail
    go_ret2
    rw [Hc.out]
    exact ⟨A', c', rfl, Hrs.out, Hnil.out, Hbw.out⟩
end Go.Proofs.YtcpombepajapjaaGreatDoor
