/- The walk of the statement AdmissibleMonotone. -/
import Derived.Test.YtkfocifejoogaaaDoorWit
import Derived.Test.YtkfocifejoogaaaDoorLab12
import Derived.Test.YtkfocifejoogaaaDoorGst
namespace Go.Proofs.YtkfocifejoogaaaDoor
open Go.ChangeShapes Go.WideShapes Go.ChangeAt Go.RowKit

theorem inB_nodes {n : Nat} {f : Nat → Bool} {k : Nat} (hk : k < n) : inB (nodesB n f) k = f k := by
  rw [Bool.eq_iff_iff, inB_iff, mem_nodesB]
  constructor
  · rintro ⟨i, _, hi, e⟩
    have : k = i := by omega
    subst this; exact hi
  · intro h; exact ⟨k, hk, h, rfl⟩
theorem stepL_len (n : Nat) (l : List (Int × Int)) (x : List Int) : (stepL n l x).length ≤ n := by
  unfold stepL
  split
  · exact nodesB_length _ _
  · simp

set_option maxRecDepth 100000 in
set_option maxHeartbeats 8000000 in
theorem monotone_any (A : Option Addr) (arg : List Int) (c : Nat) (w : World) (hlc : arg.length ≤ c) (hc : c ≤ 9223372036854775807) (hr : RI w A arg) (hx : ∀ x ∈ arg, -9223372036854775808 ≤ x ∧ x ≤ 9223372036854775807) (hT : Tab w) :
    Calls Tryd.prog 4 #[.slice A arg.length c] w (RetB (.bool true) w) := by
  go_enter Tryd.func4, Tryd.ntmps4
  go_wp2_with fail
  refine (new_any A arg c w hlc hc hr hx).mono ?_
  rintro e w1 ⟨p, rfl, hp, hs1, hb1⟩
  have hp1 := hs1.lt
  clear hr hx
  go_wp2_with fail
  refine (graph_any p 7 w1 hs1 (by omega)).mono ?_
  rintro e w2 ⟨n, l, AL, cl, rfl, hN, hv, hrp, hloc, hs2, hg2⟩
  have hb2 : Below w.heap.size w w2 := hb1.trans (below_of_grownBy hg2 hp hb1.size)
  clear hs1 hb1 hg2
  go_wp2_with fail
  obtain ⟨W0, hW, c0, c1, hb0, hlt0⟩ := boxed w2 27 (.int .i64 n) (.slice AL l.length cl)
  rw [hW]
  clear hW
  have hst := GSt.start hp hp1 hb2 hs2 hrp hloc hb0 c0 c1
  have hn40 := hv.1.1; have hlen := hv.1.2.1; have hvR := hv.1
  have HV := Lib.hid hv
  clear hs2 hrp hloc hb0 c0 c1 hb2 hp1 hv
  generalize w2.heap.size = G at *
  refine (part_any p n W0 hst.src (by omega)).mono ?_
  rintro e w3 ⟨f7, v7, rfl, ho7, hs3, hg3⟩
  have hst3 := hst.grown hs3 hg3
  have hp3 := hst.src.lt
  obtain ⟨A7, c7, rfl, _, _⟩ := ho7.form
  have hold7 : ∀ g, (Value.slice A7 (nodesB n f7).length c7).ownBlock = some g → g < w3.heap.size := fun g hg => OwnI.old ho7 hg
  have hsz3 := hg3.size
  have Hold7 := Lib.hid hold7
  have hl7 : (nodesB n f7).length ≤ 40 := by have := nodesB_length n f7; omega
  clear hst hs3 hg3 hold7
  obtain ⟨B7, hB7⟩ : ∃ B7, W0.heap.size = B7 := ⟨_, rfl⟩
  obtain ⟨B1, hB1⟩ : ∃ B1, w3.heap.size = B1 := ⟨_, rfl⟩
  rw [hB7] at ho7 hp3 hsz3 hlt0
  rw [hB1] at hsz3 Hold7
  have HB1 := Lib.hid hB1
  clear hB7 hB1
  go_wp2_with fail
  go_loopw [6, 7] (fun v i wr => ∃ (k : Nat) (h : Nat → Bool), k ≤ n ∧ i = .int .i64 k ∧ OwnI wr B1 v (nodesB k h) ∧ (∀ i, i < k → f7 i = true → h i = true) ∧ OwnI wr B7 (.slice A7 (nodesB n f7).length c7) (nodesB n f7) ∧ B1 ≤ wr.heap.size ∧ GSt w p G n l AL cl wr) (fun _ i _ => n - (intOf i).toNat)
  case atStart => exact ⟨0, fun _ => false, Nat.zero_le _, rfl, OwnI.nil _ _, fun _ h => absurd h (by omega), ho7, by rw [HB1.out]; exact Nat.le_refl _, hst3⟩
  case round =>
    clear hst3 ho7 HB1
    obtain ⟨k, h, hk, rfl, hown, hfh, ho7, hBw, hst⟩ := hrel
    have Hown := Lib.hid hown; have Hfh := Lib.hid hfh; have Ho7 := Lib.hid ho7
    clear hown hfh ho7
    obtain ⟨d0, d1⟩ : _ ∧ _ := ⟨hst.c0, hst.c1⟩
    have hlk : (nodesB k h).length ≤ 1000000 := by have := nodesB_length k h; omega
    by_cases hkn : k < n
    case pos =>
      have hin := Lib.hid (inB_nodes (f := f7) hkn)
      have hpB : p < B1 := by omega
      have hGp := hst.hpG
      have hfar : ∀ (v : Value) (wr : World), OwnI wr B1 v (nodesB k h) → Far v (.slice A7 (nodesB n f7).length c7) := fun v wr ho j hj e => by
        have := OwnI.block ho j hj; have := Hold7.out j e; omega
      have Hfar := Lib.hid hfar
      clear hfar
      go_wp2_with fail
      refine (in_any A7 (nodesB n f7) c7 (k : Int) wr (by omega) Ho7.out.ri).mono ?_
      rintro e w4 ⟨rfl, rfl⟩
      rw [hin.out]
      have hGB : G < B1 := by omega
      cases hf : f7 k
      · have Hf := Lib.hid hf
        clear hf
        go_wp2_with fail
        refine (n_any p 3 wr hst.src (by omega) (by omega)).mono ?_
        rintro e w5 ⟨d, rfl, hd1, hd2, hs5, hg5⟩
        have hst5 := hst.grown hs5 hg5
        have ho5 : OwnI w5 B1 _ (nodesB k h) := ownsRow_far Hown.out hg5 hpB
        have ho75 : OwnI w5 B7 _ (nodesB n f7) := ownsRow_far Ho7.out hg5 hp3
        have Ho5 := Lib.hid ho5; have Ho75 := Lib.hid ho75
        have hBw5 := Nat.le_trans hBw hg5.size
        clear ho5 ho75 hst hg5 hs5 d0 d1
        by_cases hd0 : d = 0
        · have hdb : (d == 0) = true := by simpa using hd0
          clear hd0
          go_wp2_with (at_builtin; refine wpList_appI (by rfl) _ _ (by rfl) w5 B1 _ _ (k : Int) Ho5.out (by rfl) (by rfl) hlk hBw5 ?_; intro v' w6 hown' hb6 hg6)
          go_roundw
          case rel => exact ⟨k + 1, fun i => if i = k then true else h i, by omega, by go_num, by rw [nodesB_more1]; exact hown', fun i hi hfi => by
            by_cases e : i = k
            · simp [e]
            · simp only [if_neg e]; exact Hfh.out i (by omega) hfi, Ho75.out.keep hg6 (Hfar.out _ _ Ho5.out), Nat.le_trans hBw5 hb6.size, hst5.append Ho5.out hg6 hb6 hGB⟩
          case measure => simp [intOf]; omega
        · have hdb : (d == 0) = false := by simpa using hd0
          clear hd0
          go_wp2_with fail
          go_roundw
          case rel => exact ⟨k + 1, fun i => if i = k then false else h i, by omega, by go_num, by rw [nodesB_more1]; simpa using Ho5.out, fun i hi hfi => by
            by_cases e : i = k
            · subst e; rw [Hf.out] at hfi; cases hfi
            · simp only [if_neg e]; exact Hfh.out i (by omega) hfi, Ho75.out, hBw5, hst5⟩
          case measure => simp [intOf]; omega
      · clear hf
        go_wp2_with (at_builtin; refine wpList_appI (by rfl) _ _ (by rfl) wr B1 _ _ (k : Int) Hown.out (by rfl) (by rfl) hlk hBw ?_; intro v' w6 hown' hb6 hg6)
        go_roundw
        case rel => exact ⟨k + 1, fun i => if i = k then true else h i, by omega, by go_num, by rw [nodesB_more1]; exact hown', fun i hi hfi => by
          by_cases e : i = k
          · simp [e]
          · simp only [if_neg e]; exact Hfh.out i (by omega) hfi, Ho7.out.keep hg6 (Hfar.out _ _ Hown.out), Nat.le_trans hBw hb6.size, hst.append Hown.out hg6 hb6 hGB⟩
        case measure => simp [intOf]; omega
    case neg =>
    obtain rfl : n = k := by omega
    have hmono := Lib.hid (step_mono hvR Hfh.out)
    obtain ⟨A6, c6, rfl, hr6, _⟩ := Hown.out.form
    have hr7 := Ho7.out.ri
    have hl6 : (nodesB n h).length ≤ 40 := by have := nodesB_length n h; omega
    obtain ⟨x7, hx7⟩ : ∃ x7, nodesB n f7 = x7 := ⟨_, rfl⟩
    obtain ⟨x6, hx6⟩ : ∃ x6, nodesB n h = x6 := ⟨_, rfl⟩
    have hm := hmono.out
    rw [hx7, hx6] at hm
    rw [hx7] at hr7 hl7 ⊢
    rw [hx6] at hr6 hl6 ⊢
    have Hm := Lib.hid hm
    clear Hown Hfh Ho7 hmono hm hx7 hx6 hlk
    have hrl := hst.rp
    have hTr := hT.below hst.hb
    have hBw2 := hst.hb
    go_wp2_with fail
    clear hst hk hkn Hold7
    refine wp_region_textB [2, 5, 6] (SB wr) (RIs []) (by kernel_rfl) (by kernel_rfl) (by kernel_rfl) (Below.refl _ _).drew (RIs.nil _) ?_
    repeat (first
      | (refine TxtBL.skip (by rfl) ?_; simp only [Act.put, List.setIfInBounds_toArray, List.set_cons_zero, List.set_cons_succ])
      | (refine TxtBL.take (by rfl) (by rfl) ?_; apply Exists.intro; refine ⟨fun w1 hS1 => ?_, ?_⟩; (focus ((have g0 := (hS1.cell (lt_of_cell d0)).trans d0); (have g1 := (hS1.cell (lt_of_cell d1)).trans d1); go_simp; with_reducible rfl)); simp only [Act.put, List.setIfInBounds_toArray, List.set_cons_zero, List.set_cons_succ])
      | (refine TxtBL.takeE (by rfl) (by rfl) ?_; apply Exists.intro; refine ⟨fun w1 hS1 => ?_, ?_⟩; (focus ((have g0 := (hS1.cell (lt_of_cell d0)).trans d0); (have g1 := (hS1.cell (lt_of_cell d1)).trans d1); go_simp; with_reducible rfl)); simp only [Act.put, List.setIfInBounds_toArray, List.set_cons_zero, List.set_cons_succ]))
    refine TxtBL.callI (by rfl) (by rfl) ?_
    apply Exists.intro; apply Exists.intro
    refine ⟨fun w1 hS1 => ?_, ?_⟩
    focus (go_simp; first | with_reducible rfl | exact ⟨rfl, rfl⟩)
    refine ⟨stepL n l x7, fun w1 hS1 hJ1 => ?_, fun Aa ca => ?_⟩
    · exact aStep_any _ n l _ _ x7 _ w1 (hrl.below hS1) hvR (hr7.below hS1) (by omega) (hTr.below hS1)
    simp only [Act.put, List.setIfInBounds_toArray, List.set_cons_zero, List.set_cons_succ]
    repeat (first
      | (refine TxtBL.skip (by rfl) ?_; simp only [Act.put, List.setIfInBounds_toArray, List.set_cons_zero, List.set_cons_succ])
      | (refine TxtBL.take (by rfl) (by rfl) ?_; apply Exists.intro; refine ⟨fun w1 hS1 => ?_, ?_⟩; (focus ((have g0 := (hS1.cell (lt_of_cell d0)).trans d0); (have g1 := (hS1.cell (lt_of_cell d1)).trans d1); go_simp; with_reducible rfl)); simp only [Act.put, List.setIfInBounds_toArray, List.set_cons_zero, List.set_cons_succ])
      | (refine TxtBL.takeE (by rfl) (by rfl) ?_; apply Exists.intro; refine ⟨fun w1 hS1 => ?_, ?_⟩; (focus ((have g0 := (hS1.cell (lt_of_cell d0)).trans d0); (have g1 := (hS1.cell (lt_of_cell d1)).trans d1); go_simp; with_reducible rfl)); simp only [Act.put, List.setIfInBounds_toArray, List.set_cons_zero, List.set_cons_succ]))
    refine TxtBL.callI (by rfl) (by rfl) ?_
    apply Exists.intro; apply Exists.intro
    refine ⟨fun w1 hS1 => ?_, ?_⟩
    focus (go_simp; first | with_reducible rfl | exact ⟨rfl, rfl⟩)
    refine ⟨stepL n l x6, fun w1 hS1 hJ1 => ?_, fun Ab cb => ?_⟩
    · exact aStep_any _ n l _ _ x6 _ w1 (hrl.below hS1) hvR (hr6.below hS1) (by omega) (hTr.below hS1)
    simp only [Act.put, List.setIfInBounds_toArray, List.set_cons_zero, List.set_cons_succ]
    repeat (first
      | (refine TxtBL.skip (by rfl) ?_; simp only [Act.put, List.setIfInBounds_toArray, List.set_cons_zero, List.set_cons_succ])
      | (refine TxtBL.take (by rfl) (by rfl) ?_; apply Exists.intro; refine ⟨fun w1 hS1 => ?_, ?_⟩; (focus (skip; go_simp; with_reducible rfl)); simp only [Act.put, List.setIfInBounds_toArray, List.set_cons_zero, List.set_cons_succ])
      | (refine TxtBL.takeE (by rfl) (by rfl) ?_; apply Exists.intro; refine ⟨fun w1 hS1 => ?_, ?_⟩; (focus (skip; go_simp; with_reducible rfl)); simp only [Act.put, List.setIfInBounds_toArray, List.set_cons_zero, List.set_cons_succ]))
    refine TxtBL.callB (by rfl) (by rfl) ?_
    apply Exists.intro; apply Exists.intro
    refine ⟨fun w1 hS1 => ?_, ?_⟩
    focus (go_simp; first | with_reducible rfl | exact ⟨rfl, rfl⟩)
    refine ⟨.bool true, fun w1 hS1 hJ1 => ?_, ?_⟩
    · have h1 := stepL_len n l x7; have h2 := stepL_len n l x6
      have H9 := inside_any Aa Ab (stepL n l x7) (stepL n l x6) ca cb w1 (by omega) (by omega) hJ1.tail.head hJ1.head
      rw [Hm.out] at H9
      exact H9.mono fun e w' h => h.quiet.below
    simp only [Act.put, List.setIfInBounds_toArray, List.set_cons_zero, List.set_cons_succ]
    repeat (first
      | (refine TxtBL.skip (by rfl) ?_; simp only [Act.put, List.setIfInBounds_toArray, List.set_cons_zero, List.set_cons_succ])
      | (refine TxtBL.take (by rfl) (by rfl) ?_; apply Exists.intro; refine ⟨fun w1 hS1 => ?_, ?_⟩; (focus (skip; go_simp; with_reducible rfl)); simp only [Act.put, List.setIfInBounds_toArray, List.set_cons_zero, List.set_cons_succ])
      | (refine TxtBL.takeE (by rfl) (by rfl) ?_; apply Exists.intro; refine ⟨fun w1 hS1 => ?_, ?_⟩; (focus (skip; go_simp; with_reducible rfl)); simp only [Act.put, List.setIfInBounds_toArray, List.set_cons_zero, List.set_cons_succ]))
    refine TxtBL.nil (fun W2 hS2 _ => ?_)
    have e0 := (hS2.cell (lt_of_cell d0)).trans d0
    have e1 := (hS2.cell (lt_of_cell d1)).trans d1
    have hrl2 := hrl.below hS2
    have hTr2 := hTr.below hS2
    have hBw3 := hBw2.trans (hS2.mono hBw2.size)
    clear d0 d1 hrl hTr hBw2 hS2 hr6 hr7 Hm
    go_wp2_with fail
    refine (gLabel_any _ n l _ W2 hrl2 HV.out hTr2).mono ?_
    rintro e w5 ⟨A5, c5, rfl, _, hr5, _, hb5⟩
    have e0 := (hb5.cell (lt_of_cell e0)).trans e0
    have e1 := (hb5.cell (lt_of_cell e1)).trans e1
    have hrl5 := hrl2.below hb5; have hTr5 := hTr2.below hb5; have hB5 := hBw3.trans (hb5.mono hBw3.size)
    have hl5 : (lst n (grL n l)).length ≤ 100000 := by rw [lst_length]; omega
    clear hrl2 hTr2 hBw3 hb5
    go_wp2_with fail
    refine (with_any A5 (lst n (grL n l)) c5 1 w5 hr5 hl5).mono ?_
    rintro e w6 ⟨A6', c6', rfl, _, hr6, _, hb6⟩
    rw [with_gr] at hr6 ⊢
    have hgl : (grS n l).length ≤ 40 := by have := nodesB_length n (fun i => grL n l i == 1); unfold grS; omega
    have hstep := Lib.hid (step_grS hvR)
    have hleast := Lib.hid (fun x (hx : setB n x = true) (h : stepL n l x = x) => least_grS hvR hx h)
    have e0 := (hb6.cell (lt_of_cell e0)).trans e0
    have e1 := (hb6.cell (lt_of_cell e1)).trans e1
    have hrl6 := hrl5.below hb6; have hTr6 := hTr5.below hb6; have hB6 := hB5.trans (hb6.mono hB5.size)
    clear hrl5 hTr5 hB5 hb6 hr5 hl5
    generalize grS n l = gs at *
    go_wp2_with fail
    refine (aStep_any _ n l _ _ gs _ w6 hrl6 hvR hr6 (by omega) hTr6).mono ?_
    rintro e w7 ⟨A7', c7', rfl, _, hr7, _, hb7⟩
    rw [hstep.out] at hr7 ⊢
    have e0 := (hb7.cell (lt_of_cell e0)).trans e0
    have e1 := (hb7.cell (lt_of_cell e1)).trans e1
    have hrl7 := hrl6.below hb7; have hTr7 := hTr6.below hb7; have hB7 := hB6.trans (hb7.mono hB6.size)
    have hr67 := hr6.below hb7
    clear hrl6 hTr6 hB6 hb7 hr6
    go_wp2_with fail
    have H8 := ints_any A7' A6' gs gs c7' c6' w7 (by omega) (by omega) hr7 hr67
    rw [(eqB_iff _ _).2 rfl] at H8
    refine H8.mono ?_
    clear H8
    rintro e w8 hh
    obtain ⟨rfl, hb8⟩ := hh.below
    have e0 := (hb8.cell (lt_of_cell e0)).trans e0
    have e1 := (hb8.cell (lt_of_cell e1)).trans e1
    have hrl8 := hrl7.below hb8; have hTr8 := hTr7.below hb8; have hB8 := hB7.trans (hb8.mono hB7.size)
    have hr68 := hr67.below hb8
    clear hrl7 hTr7 hB7 hb8 hr67 hr7 hh
    go_wp2_with fail
    refine (sets_any n w8 (by omega)).mono ?_
    rintro e B ⟨SA, sc, rfl, hso, hb9⟩
    have e0 := (hb9.cell (lt_of_cell e0)).trans e0
    have e1 := (hb9.cell (lt_of_cell e1)).trans e1
    have hrlB := hrl8.below hb9; have hTB := hTr8.below hb9; have hBB := hB8.trans (hb9.mono hB8.size)
    have hr6B := hr68.below hb9
    have hS : ∀ x ∈ setsL n, setB n x = true := fun x h => sets_mem h
    have hSl : (setsL n).length ≤ 1024 := by rw [setsL_length]; have := Nat.pow_le_pow_right (n := 2) (by omega) hN; omega
    have HS := Lib.hid hS
    clear hrl8 hTr8 hB8 hb9 hr68 hS
    generalize setsL n = S at *
    go_wp2_with fail
    go_loopw [58] (fun i wr => ∃ k : Nat, k ≤ S.length ∧ i = .int .i64 k ∧ Below B.heap.size B wr) (fun i _ => S.length - (intOf i).toNat)
    case atStart => exact ⟨0, Nat.zero_le _, rfl, Below.refl _ _⟩
    case round =>
      obtain ⟨k, hk, rfl, hbl⟩ := hrel
      by_cases hlt : k < S.length
      case neg =>
        go_wp2_with fail
        refine (awake_any wr (hTB.below hbl)).mono ?_
        rintro e w4 ⟨rfl, hb4⟩
        go_wp2_with fail
        go_ret
        exact ⟨rfl, hBB.trans ((endB hbl hb4).mono hBB.size)⟩
      case pos =>
      obtain ⟨b, o, A', c', rfl, hc, _, hri⟩ := (hso.below hbl) k hlt
      have hset := HS.out _ (List.getElem_mem hlt)
      generalize S[k] = x at *
      have hxl : x.length ≤ 100000 := by
        have h1 := set_nodes hset
        have h2 := nodesB_length n (maskN x).testBit
        rw [h1] at h2; omega
      have Hset := Lib.hid hset; clear hset
      have f0 := (hbl.cell (lt_of_cell e0)).trans e0
      have f1 := (hbl.cell (lt_of_cell e1)).trans e1
      go_wp2_with fail
      refine (aStep_any _ n l _ _ x _ wr (hrlB.below hbl) hvR hri hxl (hTB.below hbl)).mono ?_
      rintro e w4 ⟨A4, c4, rfl, _, hr4, _, hb4⟩
      have hsl := stepL_len n l x
      have hri4 := hri.below hb4
      have hr64 := (hr6B.below hbl).below hb4
      have hbl4 := endB hbl hb4
      clear hb4 hri f0 f1
      go_wp2_with fail
      refine (ints_any A4 A' (stepL n l x) x c4 c' w4 (by omega) (by omega) hr4 hri4).mono ?_
      rintro e w5 hh
      obtain ⟨rfl, hb5⟩ := hh.below
      have hbl5 := endB hbl4 hb5
      cases hq : eqB (stepL n l x) x
      · clear hq
        go_wp2_with fail
        go_roundw
        case rel => exact ⟨k + 1, by omega, by go_num, hbl5⟩
        case measure => simp [intOf]; omega
      · have hin := Lib.hid (hleast.out x Hset.out ((eqB_iff _ _).1 hq))
        clear hq
        go_wp2_with fail
        have H6 := inside_any A6' A' gs x c6' c' w5 (by omega) (by omega) (hr64.below hb5) (hri4.below hb5)
        rw [hin.out] at H6
        refine H6.mono ?_
        clear H6
        rintro e w6' ⟨rfl, rfl⟩
        go_wp2_with fail
        go_roundw
        case rel => exact ⟨k + 1, by omega, by go_num, hbl5⟩
        case measure => simp [intOf]; omega
end Go.Proofs.YtkfocifejoogaaaDoor
