/- The walk of the statement DynamicBack. -/
import Derived.Test.YtkflanjlnbdkmaaDoorDyX6
namespace Go.Proofs.YtkflanjlnbdkmaaDoor
open Go.ChangeShapes Go.WideShapes Go.ChangeAt Go.RowKit

set_option maxRecDepth 100000 in
set_option maxHeartbeats 8000000 in
theorem back_law_any (A : Option Addr) (arg : List Int) (c : Nat) (w : World)
    (hlc : arg.length ≤ c) (hc : c ≤ 9223372036854775807) (hr : RI w A arg) (hx : ∀ x ∈ arg, -9223372036854775808 ≤ x ∧ x ≤ 9223372036854775807) (hT : Tab w) :
    Calls Tryd.prog 9 #[.slice A arg.length c] w (RetB (.bool true) w) := by
  have htab : 0 < w.heap.size := lt_of_cell (hT 0 (by omega))
  go_enter Tryd.func9, Tryd.ntmps9
  go_wp2_with fail
  refine (new_any A arg c w hlc hc hr hx).mono ?_
  rintro e w1 ⟨p, rfl, hp, hs1, hb1⟩
  have hp1 := hs1.lt
  clear hr hx
  go_wp2_with fail
  refine (graph2_any p 8 w1 hs1 (by omega)).mono ?_
  rintro e w2 ⟨n, l, AL, cl, rfl, hN, hv, hrp, hloc, hs2, hg2, hAn⟩
  have hb2 : Below w.heap.size w w2 := hb1.trans (below_of_grownBy hg2 hp hb1.size)
  have hT2 := hT.below hb2
  have hp2 := hs2.lt
  have Hnew := Lib.hid (new_v hv AL cl w2 hrp hAn hT2)
  obtain ⟨G, hG⟩ : ∃ G, lst n (grL n l) = G := ⟨_, rfl⟩
  rw [hG] at Hnew
  have HG := Lib.hid hG; have HV := Lib.hid hv
  clear hs1 hb1 hg2 hT hv hrp hloc hAn hG
  go_wp2_with fail
  refine Hnew.out.mono ?_
  rintro e w3 ⟨A3, c3, B3, d3, rfl, hop3, hoi3, hb3⟩
  have hV3 := DyV.of_own hop3 hoi3
  have hs3 := hs2.kept hb3
  have hT3 := hT2.below hb3
  have hbb3 := endB hb2 hb3
  have hsz3 := hb3.size
  clear Hnew hop3 hoi3 hs2 hT2 hb2 hb3
  go_upto_region 3 with fail
  obtain ⟨W4, hW4, k4, hb4, hlt4⟩ := boxed3 w3 52 (.int .i64 (n : Int)) (.slice A3 l.length c3) (.slice B3 G.length d3)
  rw [hW4]
  have hV4 := hV3.below hb4
  have hs4 := hs3.kept hb4
  have hT4 := hT3.below hb4
  have hbb4 := endB hbb3 hb4
  have hsz4 := hb4.size
  obtain ⟨c0, c1, c2, _, _, _⟩ := k4.threeF
  clear hW4 hV3 hs3 hT3 hbb3 hb4
  by_cases hn0 : n = 0
  · have hnb : ((n : Int) == 0) = true := by rw [beq_iff_eq]; omega
    clear hn0
    go_wp2_with fail
    refine (awake19_any W4 hT4).mono ?_
    rintro e w9 ⟨rfl, hb9⟩
    clear c0 c1 c2 k4
    go_wp2_with fail
    go_ret
    exact ⟨rfl, endB hbb4 hb9⟩
  have hnb : ((n : Int) == 0) = false := by rw [beq_eq_false_iff_ne]; omega
  go_upto_region 5 with fail
  refine wp_region_textB [4, 9] (fun w' => SrcOk w' p ∧ W4.grownBy w' (some p)) (fun _ => True) (by kernel_rfl) (by kernel_rfl) (by kernel_rfl) ⟨hs4.kept (Below.refl _ _).drew, grownBy_of_below (Below.refl _ _).drew _⟩ trivial ?_
  repeat (first
    | (refine TxtBL.skip (by rfl) ?_; simp only [Act.put, List.setIfInBounds_toArray, List.set_cons_zero, List.set_cons_succ])
    | (refine TxtBL.take (by rfl) (by rfl) ?_; apply Exists.intro; refine ⟨fun w1 hS1 => ?_, ?_⟩; (focus ((obtain ⟨g0, g1, g2, _, _, _⟩ := (k4.grown hS1.2 (fun e => by injection e with e; omega)).threeF); go_simp; with_reducible rfl)); simp only [Act.put, List.setIfInBounds_toArray, List.set_cons_zero, List.set_cons_succ])
    | (refine TxtBL.takeE (by rfl) (by rfl) ?_; apply Exists.intro; refine ⟨fun w1 hS1 => ?_, ?_⟩; (focus ((obtain ⟨g0, g1, g2, _, _, _⟩ := (k4.grown hS1.2 (fun e => by injection e with e; omega)).threeF); go_simp; with_reducible rfl)); simp only [Act.put, List.setIfInBounds_toArray, List.set_cons_zero, List.set_cons_succ]))
  refine TxtBL.call (f := 21) (args := #[.pointer (some ⟨p, 0, none⟩), .int .i64 (n : Int)]) (fun u => ∃ x : Nat, x < n ∧ u = Value.int .i64 (x : Int)) (fun _ _ => True) (by rfl) (by rfl) ⟨_, 0, by omega, rfl⟩ (fun w6 hS1 hJ1 => by go_simp) (fun w6 hS1 hJ1 => ?_) ?_
  · refine (n_any p n w6 hS1.1 (by omega) (by omega)).mono ?_
    rintro e w' ⟨v, rfl, h0, h1, hs, hg⟩
    exact ⟨_, rfl, ⟨hs, grownBy_trans hS1.2 hg⟩, ⟨v.toNat, by omega, by rw [Int.toNat_of_nonneg h0]⟩, trivial⟩
  rintro v47 ⟨x, hxn, rfl⟩
  simp only [Act.put, List.setIfInBounds_toArray, List.set_cons_zero, List.set_cons_succ]
  repeat (first
    | (refine TxtBL.skip (by rfl) ?_; simp only [Act.put, List.setIfInBounds_toArray, List.set_cons_zero, List.set_cons_succ])
    | (refine TxtBL.take (by rfl) (by rfl) ?_; apply Exists.intro; refine ⟨fun w1 hS1 => ?_, ?_⟩; (focus ((obtain ⟨g0, g1, g2, _, _, _⟩ := (k4.grown hS1.2 (fun e => by injection e with e; omega)).threeF); go_simp; with_reducible rfl)); simp only [Act.put, List.setIfInBounds_toArray, List.set_cons_zero, List.set_cons_succ])
    | (refine TxtBL.takeE (by rfl) (by rfl) ?_; apply Exists.intro; refine ⟨fun w1 hS1 => ?_, ?_⟩; (focus ((obtain ⟨g0, g1, g2, _, _, _⟩ := (k4.grown hS1.2 (fun e => by injection e with e; omega)).threeF); go_simp; with_reducible rfl)); simp only [Act.put, List.setIfInBounds_toArray, List.set_cons_zero, List.set_cons_succ]))
  refine TxtBL.call (f := 21) (args := #[.pointer (some ⟨p, 0, none⟩), .int .i64 (n : Int)]) (fun u => ∃ x : Nat, x < n ∧ u = Value.int .i64 (x : Int)) (fun _ _ => True) (by rfl) (by rfl) ⟨_, 0, by omega, rfl⟩ (fun w6 hS1 hJ1 => by go_simp) (fun w6 hS1 hJ1 => ?_) ?_
  · refine (n_any p n w6 hS1.1 (by omega) (by omega)).mono ?_
    rintro e w' ⟨v, rfl, h0, h1, hs, hg⟩
    exact ⟨_, rfl, ⟨hs, grownBy_trans hS1.2 hg⟩, ⟨v.toNat, by omega, by rw [Int.toNat_of_nonneg h0]⟩, trivial⟩
  rintro v52 ⟨y, hyn, rfl⟩
  simp only [Act.put, List.setIfInBounds_toArray, List.set_cons_zero, List.set_cons_succ]
  repeat (first
    | (refine TxtBL.skip (by rfl) ?_; simp only [Act.put, List.setIfInBounds_toArray, List.set_cons_zero, List.set_cons_succ])
    | (refine TxtBL.take (by rfl) (by rfl) ?_; apply Exists.intro; refine ⟨fun w1 hS1 => ?_, ?_⟩; (focus (skip; go_simp; with_reducible rfl)); simp only [Act.put, List.setIfInBounds_toArray, List.set_cons_zero, List.set_cons_succ])
    | (refine TxtBL.takeE (by rfl) (by rfl) ?_; apply Exists.intro; refine ⟨fun w1 hS1 => ?_, ?_⟩; (focus (skip; go_simp; with_reducible rfl)); simp only [Act.put, List.setIfInBounds_toArray, List.set_cons_zero, List.set_cons_succ]))
  refine TxtBL.nil (fun W5 hS _ => ?_)
  have k5 := k4.grown hS.2 (fun e => by injection e with e; omega)
  have hV5 := hV4.grown hS.2 hp2
  have hT5 := hT4.grown hS.2 (by omega)
  have hbb5 : Below w.heap.size w W5 := hbb4.grown hS.2 hbb4.size (fun k hk => by injection hk with hk; omega)
  have hn40 : n < 40 := by omega
  have hhas := r10Has_any A3 n l c3 x y W5 hV5.rp HV.out.1.2.1
  rw [nGl_vld HV.out] at hhas
  have hbp := fun k1 k2 => back_pair HV.out hxn hyn (k1 := k1) (k2 := k2)
  have Hbp := Lib.hid hbp
  have hgl : G.length = n := by rw [← HG.out, lst_length]
  have HGl := Lib.hid hgl
  obtain ⟨c0, c1, c2, _, _, _⟩ := k5.threeF
  have hk5 := k5.lt
  clear hS hV4 hT4 hbb4 k4 hs4 hbp hgl hN
  cases hh : hasB l x y
  · rw [hh] at hhas
    obtain ⟨e1, e2, e3, e4, e5, e6⟩ := Hbp.out 1 2 (by simp [hh])
    rw [show ((1 : Int) == 1) = true by decide] at e6
    obtain ⟨l1, hl1⟩ : ∃ l1, chL n l 1 x y = l1 := ⟨_, rfl⟩
    rw [hl1] at e3 e5 e6
    have hv1 : Vld n l1 := by have := ch_vld HV.out.1.1 e1; rw [e2, hl1] at this; exact this
    have HA1 := Lib.hid (app_at HV.out e1 e2 hl1 rfl)
    have HA2 := Lib.hid (app_at hv1 e3 e4 e5 rfl)
    have HA3 := Lib.hid (app_at (F' := [(n : Int)]) HV.out (chk3 (l := l) hn40) (chN3 n) (ch_node HV.out).symm (by rw [chN3, ← ch_node HV.out, show rtL n l 3 0 = [(n : Int)] by simp [rtL]]; exact new_aff HV.out hn40))
    have HA4 := Lib.hid (app_at (F' := []) (vld_wide HV.out hn40) (chk4 (n := n) (l := l)) (chN4 n) (last_same HV.out hn40) (by rw [chN4, last_same HV.out hn40]; exact last_aff HV.out))
    have Hh1 := Lib.hid (fun (A : Option Addr) (c : Nat) (W : World) (hr : RP W A l1) => r10Has_any A n l1 c x y W hr hv1.1.2.1)
    rw [nGl_vld hv1, e6] at Hh1
    obtain ⟨F1, hF1⟩ : ∃ F1, affL (chN n 1) (chL n l 1 x y) (rtL n l 1 y) = F1 := ⟨_, rfl⟩
    obtain ⟨F2, hF2⟩ : ∃ F2, affL (chN n 2) (chL n l1 2 x y) (rtL n l1 2 y) = F2 := ⟨_, rfl⟩
    obtain ⟨G1, hG1⟩ : ∃ G1, lst n (grL n l1) = G1 := ⟨_, rfl⟩
    obtain ⟨G3, hG3⟩ : ∃ G3, lst (n + 1) (grL (n + 1) l) = G3 := ⟨_, rfl⟩
    have hg3l : G3.length = n + 1 := by rw [← hG3, lst_length]
    have hg3n : G3.getD n 0 = 1 := by rw [← hG3, lst_getD (by omega)]; exact new_in HV.out hn40
    rw [hF1, hG1, HG.out] at HA1
    rw [hF2, hG1, HG.out] at HA2
    rw [hG3, HG.out] at HA3 HA4
    rw [show ((n + 1 : Nat) : Int) = (n : Int) + 1 by omega] at HA3 HA4
    have HG3l := Lib.hid hg3l; have HG3n := Lib.hid hg3n; have HV1 := Lib.hid hv1
    have HT5 := Lib.hid hT5; have HV5 := Lib.hid hV5
    clear hF1 hF2 hG1 hG3 hg3l hg3n hv1 e1 e2 e3 e4 e5 e6 hl1
    go_wp2_with fail
    refine hhas.mono ?_
    rintro e w6 ⟨rfl, hb6⟩
    have k6 := k5.below hb6 k5.lt
    have hV6 := HV5.out.below hb6
    have hT6 := HT5.out.below hb6
    have hbb6 := endB hbb5 hb6
    obtain ⟨c0, c1, c2, _, _, _⟩ := k6.threeF
    have Hc := Lib.hid (HA1.out A3 c3 B3 d3 w6 _ hV6 hT6)
    clear hhas hb6 HA1 HT5 HV5
    go_wp2_with fail
    refine Hc.out.mono ?_
    rintro e w7 ⟨A7, c7, B7, d7, F7, f7, rfl, hVa7, _, hb7⟩
    go_upto_region 10 with fail
    obtain ⟨W8, hW8, ka8, hb8, _⟩ := boxed3 w7 52 (.int .i64 (n : Int)) (.slice A7 l1.length c7) (.slice B7 G1.length d7)
    rw [hW8]
    have hb := hb7.trans (hb8.mono hb7.size)
    have k8 := k6.below hb k6.lt
    have hV8 := hV6.below hb
    have hVa8 := hVa7.below hb8
    have hT8 := hT6.below hb
    have hbb8 := endB hbb6 hb
    obtain ⟨c0, c1, c2, _, _, _⟩ := ka8.threeF
    have Hc := Lib.hid (HA2.out A7 c7 B7 d7 W8 _ hVa8 hT8)
    clear hW8 hb7 hb8 hb k6 hV6 hVa7 hT6 hbb6 HA2
    go_wp2_with fail
    refine Hc.out.mono ?_
    rintro e w9 ⟨A9, c9, B9, d9, F9, f9, rfl, hVb9, _, hb9⟩
    go_upto_region 11 with fail
    obtain ⟨W10, hW10, kb10, hb10, _⟩ := boxed3 w9 52 (.int .i64 (n : Int)) (.slice A9 l.length c9) (.slice B9 G.length d9)
    rw [hW10]
    have hb := hb9.trans (hb10.mono hb9.size)
    have k10 := k8.below hb k8.lt
    have ka10 := ka8.below hb ka8.lt
    have hV10 := hV8.below hb
    have hVa10 := hVa8.below hb
    have hVb10 := hVb9.below hb10
    have hT10 := hT8.below hb
    have hbb10 := endB hbb8 hb
    obtain ⟨c0, c1, c2, _, _, _⟩ := k10.threeF
    have Hc := Lib.hid (HA3.out A3 c3 B3 d3 W10 _ hV10 hT10)
    clear hW10 hb9 hb10 hb k8 ka8 hV8 hVa8 hVb9 hT8 hbb8 HA3
    go_wp2_with fail
    refine Hc.out.mono ?_
    rintro e w11 ⟨A11, c11, B11, d11, F11, f11, rfl, hVx11, hF11, hb11⟩
    go_upto_region 12 with fail
    obtain ⟨W12, hW12, kx12, hb12, _⟩ := boxed3 w11 52 (.int .i64 ((n : Int) + 1)) (.slice A11 l.length c11) (.slice B11 G3.length d11)
    rw [hW12]
    have hb := hb11.trans (hb12.mono hb11.size)
    have k12 := k10.below hb k10.lt
    have ka12 := ka10.below hb ka10.lt
    have kb12 := kb10.below hb kb10.lt
    have hV12 := hV10.below hb
    have hVa12 := hVa10.below hb
    have hVb12 := hVb10.below hb
    have hVx12 := hVx11.below hb12
    have hF12 := hF11.below hb12
    have hT12 := hT10.below hb
    have hbb12 := endB hbb10 hb
    obtain ⟨c0, c1, c2, _, _, _⟩ := kx12.threeF
    have Hc := Lib.hid (HA4.out A11 c11 B11 d11 W12 _ hVx12 hT12)
    clear hW12 hb11 hb12 hb k10 ka10 kb10 hV10 hVa10 hVb10 hVx11 hF11 hT10 hbb10 HA4
    go_wp2_with fail
    refine Hc.out.mono ?_
    rintro e w13 ⟨A13, c13, B13, d13, F13, f13, rfl, hVy13, _, hb13⟩
    go_upto_region 13 with fail
    obtain ⟨W14, hW14, ky14, hb14, _⟩ := boxed3 w13 52 (.int .i64 (n : Int)) (.slice A13 l.length c13) (.slice B13 G.length d13)
    rw [hW14]
    have hb := hb13.trans (hb14.mono hb13.size)
    have k14 := k12.below hb k12.lt
    have ka14 := ka12.below hb ka12.lt
    have kb14 := kb12.below hb kb12.lt
    have kx14 := kx12.below hb kx12.lt
    have hV14 := hV12.below hb
    have hVa14 := hVa12.below hb
    have hVb14 := hVb12.below hb
    have hVx14 := hVx12.below hb
    have hVy14 := hVy13.below hb14
    have hF14 := hF12.below hb
    have hT14 := hT12.below hb
    have hbb14 := endB hbb12 hb
    obtain ⟨c0, c1, c2, _, _, _⟩ := k14.threeF
    obtain ⟨e0, e1, e2, _, _, _⟩ := kb14.threeF
    have hsm := fun (A B C D : Option Addr) (c1 c2 d1 d2 : Nat) (W : World) (h1 : RP W A l) (h2 : RP W B l) (h3 : RI W C G) (h4 : RI W D G) => same19_any A B C D n n l l G G c1 c2 d1 d2 W h1 h2 h3 h4 HV.out.1.2.1 HV.out.1.2.1 (by rw [HGl.out]; omega) (by rw [HGl.out]; omega)
    rw [show sameD (n : Int) l G n l G = true by simp [sameD, sameB, eqB]] at hsm
    have Hsm := Lib.hid hsm
    clear hW14 hb13 hb14 hb k12 ka12 kb12 kx12 hV12 hVa12 hVb12 hVx12 hVy13 hF12 hT12 hbb12 hsm
    go_wp2_with fail
    refine (Hsm.out _ _ _ _ _ _ _ _ W14 hVb14.rp hV14.rp hVb14.ri hV14.ri).mono ?_
    rintro e w15 ⟨rfl, hb15⟩
    have k15 := k14.below hb15 k14.lt
    have ka15 := ka14.below hb15 ka14.lt
    have kx15 := kx14.below hb15 kx14.lt
    have ky15 := ky14.below hb15 ky14.lt
    have hV15 := hV14.below hb15
    have hVa15 := hVa14.below hb15
    have hVx15 := hVx14.below hb15
    have hVy15 := hVy14.below hb15
    have hF15 := hF14.below hb15
    have hT15 := hT14.below hb15
    have hbb15 := endB hbb14 hb15
    obtain ⟨c0, c1, c2, _, _, _⟩ := k15.threeF
    obtain ⟨e0, e1, e2, _, _, _⟩ := ky15.threeF
    clear hb15 k14 ka14 kb14 kx14 hV14 hVa14 hVb14 hVx14 hVy14 hF14 hT14 hbb14
    go_wp2_with fail
    refine (Hsm.out _ _ _ _ _ _ _ _ w15 hVy15.rp hV15.rp hVy15.ri hV15.ri).mono ?_
    rintro e w16 ⟨rfl, hb16⟩
    have k16 := k15.below hb16 k15.lt
    have ka16 := ka15.below hb16 ka15.lt
    have kx16 := kx15.below hb16 kx15.lt
    have hVa16 := hVa15.below hb16
    have hVx16 := hVx15.below hb16
    have hF16 := hF15.below hb16
    have hT16 := hT15.below hb16
    have hbb16 := endB hbb15 hb16
    obtain ⟨c0, c1, c2, _, _, _⟩ := k16.threeF
    obtain ⟨a0, a1, a2, _, _, _⟩ := ka16.threeF
    obtain ⟨x0, x1, x2, _, _, _⟩ := kx16.threeF
    clear hb16 k15 ka15 kx15 ky15 hV15 hVa15 hVx15 hVy15 hF15 hT15 hbb15 e0 e1 e2 Hsm
    go_wp2_with fail
    refine (Hh1.out A7 c7 w16 hVa16.rp).mono ?_
    rintro e w17 ⟨rfl, hb17⟩
    have k17 := k16.below hb17 k16.lt
    have kx17 := kx16.below hb17 kx16.lt
    have hVx17 := hVx16.below hb17
    have hF17 := hF16.below hb17
    have hT17 := hT16.below hb17
    have hbb17 := endB hbb16 hb17
    obtain ⟨c0, c1, c2, _, _, _⟩ := k17.threeF
    obtain ⟨x0, x1, x2, _, _, _⟩ := kx17.threeF
    clear hb17 k16 ka16 kx16 hVa16 hVx16 hF16 hT16 hbb16 a0 a1 a2 Hh1
    go_wp2_with fail
    have h18 := ints_any F11 (some ⟨w17.heap.size, 0, none⟩) [(n : Int)] [(n : Int)] f11 1 (w17.alloc (.cells #[.int .i64 (n : Int)] 3)) (by simp) (by simp) (hF17.below (newB _ _)) (own_one w17 (n : Int)).ri
    rw [show eqB [(n : Int)] [(n : Int)] = true by simp [eqB]] at h18
    refine h18.mono ?_
    rintro e w18 ⟨rfl, hq18⟩
    have hb18 := thenB (newB w17 (.cells #[.int .i64 (n : Int)] 3)) (RetQ.below (v := .bool true) ⟨rfl, hq18⟩).2
    have k18 := k17.below hb18 k17.lt
    have kx18 := kx17.below hb18 kx17.lt
    have hVx18 := hVx17.below hb18
    have hT18 := hT17.below hb18
    have hbb18 := endB hbb17 hb18
    obtain ⟨c0, c1, c2, _, _, _⟩ := k18.threeF
    obtain ⟨x0, x1, x2, _, _, _⟩ := kx18.threeF
    have hG3l := HG3l.out
    have hn3 : n < G3.length := by omega
    obtain ⟨bL, oL, hB11, hcL⟩ := hVx18.ri n hn3
    rw [HG3n.out] at hcL
    have hl3 : ((G3.length : Int) == (n : Int) + 1) = true := by rw [beq_iff_eq]; omega
    have hn3' : (n : Int) < (G3.length : Int) := by omega
    have hn00 : (0 : Int) ≤ (n : Int) := by omega
    subst hB11
    clear h18 hq18 hb18 k17 kx17 hVx17 hF17 hT17 hbb17 hG3l hn3 k18 kx18
    go_wp2_with fail
    refine (awake19_any w18 hT18).mono ?_
    rintro e w19 ⟨rfl, hb19⟩
    clear c0 c1 c2 x0 x1 x2 hcL
    go_wp2_with fail
    go_ret
    exact ⟨rfl, endB hbb18 hb19⟩
  · rw [hh] at hhas
    obtain ⟨e1, e2, e3, e4, e5, e6⟩ := Hbp.out 2 1 (by simp [hh])
    rw [show ((2 : Int) == 1) = false by decide] at e6
    obtain ⟨l1, hl1⟩ : ∃ l1, chL n l 2 x y = l1 := ⟨_, rfl⟩
    rw [hl1] at e3 e5 e6
    have hv1 : Vld n l1 := by have := ch_vld HV.out.1.1 e1; rw [e2, hl1] at this; exact this
    have HA1 := Lib.hid (app_at HV.out e1 e2 hl1 rfl)
    have HA2 := Lib.hid (app_at hv1 e3 e4 e5 rfl)
    have HA3 := Lib.hid (app_at (F' := [(n : Int)]) HV.out (chk3 (l := l) hn40) (chN3 n) (ch_node HV.out).symm (by rw [chN3, ← ch_node HV.out, show rtL n l 3 0 = [(n : Int)] by simp [rtL]]; exact new_aff HV.out hn40))
    have HA4 := Lib.hid (app_at (F' := []) (vld_wide HV.out hn40) (chk4 (n := n) (l := l)) (chN4 n) (last_same HV.out hn40) (by rw [chN4, last_same HV.out hn40]; exact last_aff HV.out))
    have Hh1 := Lib.hid (fun (A : Option Addr) (c : Nat) (W : World) (hr : RP W A l1) => r10Has_any A n l1 c x y W hr hv1.1.2.1)
    rw [nGl_vld hv1, e6] at Hh1
    obtain ⟨F1, hF1⟩ : ∃ F1, affL (chN n 2) (chL n l 2 x y) (rtL n l 2 y) = F1 := ⟨_, rfl⟩
    obtain ⟨F2, hF2⟩ : ∃ F2, affL (chN n 1) (chL n l1 1 x y) (rtL n l1 1 y) = F2 := ⟨_, rfl⟩
    obtain ⟨G1, hG1⟩ : ∃ G1, lst n (grL n l1) = G1 := ⟨_, rfl⟩
    obtain ⟨G3, hG3⟩ : ∃ G3, lst (n + 1) (grL (n + 1) l) = G3 := ⟨_, rfl⟩
    have hg3l : G3.length = n + 1 := by rw [← hG3, lst_length]
    have hg3n : G3.getD n 0 = 1 := by rw [← hG3, lst_getD (by omega)]; exact new_in HV.out hn40
    rw [hF1, hG1, HG.out] at HA1
    rw [hF2, hG1, HG.out] at HA2
    rw [hG3, HG.out] at HA3 HA4
    rw [show ((n + 1 : Nat) : Int) = (n : Int) + 1 by omega] at HA3 HA4
    have HG3l := Lib.hid hg3l; have HG3n := Lib.hid hg3n; have HV1 := Lib.hid hv1
    have HT5 := Lib.hid hT5; have HV5 := Lib.hid hV5
    clear hF1 hF2 hG1 hG3 hg3l hg3n hv1 e1 e2 e3 e4 e5 e6 hl1
    go_wp2_with fail
    refine hhas.mono ?_
    rintro e w6 ⟨rfl, hb6⟩
    have k6 := k5.below hb6 k5.lt
    have hV6 := HV5.out.below hb6
    have hT6 := HT5.out.below hb6
    have hbb6 := endB hbb5 hb6
    obtain ⟨c0, c1, c2, _, _, _⟩ := k6.threeF
    have Hc := Lib.hid (HA1.out A3 c3 B3 d3 w6 _ hV6 hT6)
    clear hhas hb6 HA1 HT5 HV5
    go_wp2_with fail
    refine Hc.out.mono ?_
    rintro e w7 ⟨A7, c7, B7, d7, F7, f7, rfl, hVa7, _, hb7⟩
    go_upto_region 10 with fail
    obtain ⟨W8, hW8, ka8, hb8, _⟩ := boxed3 w7 52 (.int .i64 (n : Int)) (.slice A7 l1.length c7) (.slice B7 G1.length d7)
    rw [hW8]
    have hb := hb7.trans (hb8.mono hb7.size)
    have k8 := k6.below hb k6.lt
    have hV8 := hV6.below hb
    have hVa8 := hVa7.below hb8
    have hT8 := hT6.below hb
    have hbb8 := endB hbb6 hb
    obtain ⟨c0, c1, c2, _, _, _⟩ := ka8.threeF
    have Hc := Lib.hid (HA2.out A7 c7 B7 d7 W8 _ hVa8 hT8)
    clear hW8 hb7 hb8 hb k6 hV6 hVa7 hT6 hbb6 HA2
    go_wp2_with fail
    refine Hc.out.mono ?_
    rintro e w9 ⟨A9, c9, B9, d9, F9, f9, rfl, hVb9, _, hb9⟩
    go_upto_region 11 with fail
    obtain ⟨W10, hW10, kb10, hb10, _⟩ := boxed3 w9 52 (.int .i64 (n : Int)) (.slice A9 l.length c9) (.slice B9 G.length d9)
    rw [hW10]
    have hb := hb9.trans (hb10.mono hb9.size)
    have k10 := k8.below hb k8.lt
    have ka10 := ka8.below hb ka8.lt
    have hV10 := hV8.below hb
    have hVa10 := hVa8.below hb
    have hVb10 := hVb9.below hb10
    have hT10 := hT8.below hb
    have hbb10 := endB hbb8 hb
    obtain ⟨c0, c1, c2, _, _, _⟩ := k10.threeF
    have Hc := Lib.hid (HA3.out A3 c3 B3 d3 W10 _ hV10 hT10)
    clear hW10 hb9 hb10 hb k8 ka8 hV8 hVa8 hVb9 hT8 hbb8 HA3
    go_wp2_with fail
    refine Hc.out.mono ?_
    rintro e w11 ⟨A11, c11, B11, d11, F11, f11, rfl, hVx11, hF11, hb11⟩
    go_upto_region 12 with fail
    obtain ⟨W12, hW12, kx12, hb12, _⟩ := boxed3 w11 52 (.int .i64 ((n : Int) + 1)) (.slice A11 l.length c11) (.slice B11 G3.length d11)
    rw [hW12]
    have hb := hb11.trans (hb12.mono hb11.size)
    have k12 := k10.below hb k10.lt
    have ka12 := ka10.below hb ka10.lt
    have kb12 := kb10.below hb kb10.lt
    have hV12 := hV10.below hb
    have hVa12 := hVa10.below hb
    have hVb12 := hVb10.below hb
    have hVx12 := hVx11.below hb12
    have hF12 := hF11.below hb12
    have hT12 := hT10.below hb
    have hbb12 := endB hbb10 hb
    obtain ⟨c0, c1, c2, _, _, _⟩ := kx12.threeF
    have Hc := Lib.hid (HA4.out A11 c11 B11 d11 W12 _ hVx12 hT12)
    clear hW12 hb11 hb12 hb k10 ka10 kb10 hV10 hVa10 hVb10 hVx11 hF11 hT10 hbb10 HA4
    go_wp2_with fail
    refine Hc.out.mono ?_
    rintro e w13 ⟨A13, c13, B13, d13, F13, f13, rfl, hVy13, _, hb13⟩
    go_upto_region 13 with fail
    obtain ⟨W14, hW14, ky14, hb14, _⟩ := boxed3 w13 52 (.int .i64 (n : Int)) (.slice A13 l.length c13) (.slice B13 G.length d13)
    rw [hW14]
    have hb := hb13.trans (hb14.mono hb13.size)
    have k14 := k12.below hb k12.lt
    have ka14 := ka12.below hb ka12.lt
    have kb14 := kb12.below hb kb12.lt
    have kx14 := kx12.below hb kx12.lt
    have hV14 := hV12.below hb
    have hVa14 := hVa12.below hb
    have hVb14 := hVb12.below hb
    have hVx14 := hVx12.below hb
    have hVy14 := hVy13.below hb14
    have hF14 := hF12.below hb
    have hT14 := hT12.below hb
    have hbb14 := endB hbb12 hb
    obtain ⟨c0, c1, c2, _, _, _⟩ := k14.threeF
    obtain ⟨e0, e1, e2, _, _, _⟩ := kb14.threeF
    have hsm := fun (A B C D : Option Addr) (c1 c2 d1 d2 : Nat) (W : World) (h1 : RP W A l) (h2 : RP W B l) (h3 : RI W C G) (h4 : RI W D G) => same19_any A B C D n n l l G G c1 c2 d1 d2 W h1 h2 h3 h4 HV.out.1.2.1 HV.out.1.2.1 (by rw [HGl.out]; omega) (by rw [HGl.out]; omega)
    rw [show sameD (n : Int) l G n l G = true by simp [sameD, sameB, eqB]] at hsm
    have Hsm := Lib.hid hsm
    clear hW14 hb13 hb14 hb k12 ka12 kb12 kx12 hV12 hVa12 hVb12 hVx12 hVy13 hF12 hT12 hbb12 hsm
    go_wp2_with fail
    refine (Hsm.out _ _ _ _ _ _ _ _ W14 hVb14.rp hV14.rp hVb14.ri hV14.ri).mono ?_
    rintro e w15 ⟨rfl, hb15⟩
    have k15 := k14.below hb15 k14.lt
    have ka15 := ka14.below hb15 ka14.lt
    have kx15 := kx14.below hb15 kx14.lt
    have ky15 := ky14.below hb15 ky14.lt
    have hV15 := hV14.below hb15
    have hVa15 := hVa14.below hb15
    have hVx15 := hVx14.below hb15
    have hVy15 := hVy14.below hb15
    have hF15 := hF14.below hb15
    have hT15 := hT14.below hb15
    have hbb15 := endB hbb14 hb15
    obtain ⟨c0, c1, c2, _, _, _⟩ := k15.threeF
    obtain ⟨e0, e1, e2, _, _, _⟩ := ky15.threeF
    clear hb15 k14 ka14 kb14 kx14 hV14 hVa14 hVb14 hVx14 hVy14 hF14 hT14 hbb14
    go_wp2_with fail
    refine (Hsm.out _ _ _ _ _ _ _ _ w15 hVy15.rp hV15.rp hVy15.ri hV15.ri).mono ?_
    rintro e w16 ⟨rfl, hb16⟩
    have k16 := k15.below hb16 k15.lt
    have ka16 := ka15.below hb16 ka15.lt
    have kx16 := kx15.below hb16 kx15.lt
    have hVa16 := hVa15.below hb16
    have hVx16 := hVx15.below hb16
    have hF16 := hF15.below hb16
    have hT16 := hT15.below hb16
    have hbb16 := endB hbb15 hb16
    obtain ⟨c0, c1, c2, _, _, _⟩ := k16.threeF
    obtain ⟨a0, a1, a2, _, _, _⟩ := ka16.threeF
    obtain ⟨x0, x1, x2, _, _, _⟩ := kx16.threeF
    clear hb16 k15 ka15 kx15 ky15 hV15 hVa15 hVx15 hVy15 hF15 hT15 hbb15 e0 e1 e2 Hsm
    go_wp2_with fail
    refine (Hh1.out A7 c7 w16 hVa16.rp).mono ?_
    rintro e w17 ⟨rfl, hb17⟩
    have k17 := k16.below hb17 k16.lt
    have kx17 := kx16.below hb17 kx16.lt
    have hVx17 := hVx16.below hb17
    have hF17 := hF16.below hb17
    have hT17 := hT16.below hb17
    have hbb17 := endB hbb16 hb17
    obtain ⟨c0, c1, c2, _, _, _⟩ := k17.threeF
    obtain ⟨x0, x1, x2, _, _, _⟩ := kx17.threeF
    clear hb17 k16 ka16 kx16 hVa16 hVx16 hF16 hT16 hbb16 a0 a1 a2 Hh1
    go_wp2_with fail
    have h18 := ints_any F11 (some ⟨w17.heap.size, 0, none⟩) [(n : Int)] [(n : Int)] f11 1 (w17.alloc (.cells #[.int .i64 (n : Int)] 3)) (by simp) (by simp) (hF17.below (newB _ _)) (own_one w17 (n : Int)).ri
    rw [show eqB [(n : Int)] [(n : Int)] = true by simp [eqB]] at h18
    refine h18.mono ?_
    rintro e w18 ⟨rfl, hq18⟩
    have hb18 := thenB (newB w17 (.cells #[.int .i64 (n : Int)] 3)) (RetQ.below (v := .bool true) ⟨rfl, hq18⟩).2
    have k18 := k17.below hb18 k17.lt
    have kx18 := kx17.below hb18 kx17.lt
    have hVx18 := hVx17.below hb18
    have hT18 := hT17.below hb18
    have hbb18 := endB hbb17 hb18
    obtain ⟨c0, c1, c2, _, _, _⟩ := k18.threeF
    obtain ⟨x0, x1, x2, _, _, _⟩ := kx18.threeF
    have hG3l := HG3l.out
    have hn3 : n < G3.length := by omega
    obtain ⟨bL, oL, hB11, hcL⟩ := hVx18.ri n hn3
    rw [HG3n.out] at hcL
    have hl3 : ((G3.length : Int) == (n : Int) + 1) = true := by rw [beq_iff_eq]; omega
    have hn3' : (n : Int) < (G3.length : Int) := by omega
    have hn00 : (0 : Int) ≤ (n : Int) := by omega
    subst hB11
    clear h18 hq18 hb18 k17 kx17 hVx17 hF17 hT17 hbb17 hG3l hn3 k18 kx18
    go_wp2_with fail
    refine (awake19_any w18 hT18).mono ?_
    rintro e w19 ⟨rfl, hb19⟩
    clear c0 c1 c2 x0 x1 x2 hcL
    go_wp2_with fail
    go_ret
    exact ⟨rfl, endB hbb18 hb19⟩
end Go.Proofs.YtkflanjlnbdkmaaDoor
