import Derived.Test.YtncimnfhfomddaaDoorChA
import Derived.Deep.DeepCutAuto
import Derived.Deep.CutBlock
import Derived.Test.YtncimnfhfomddaaDoorLov
/- law21: the walk of EnforceChecks. (short put) -/
namespace Go.Proofs.YtncimnfhfomddaaDoor
open Go.ChangeShapes Go.WideShapes Go.ChangeAt Go.RowKit

theorem rowG2 (w : World) (N0 : Int) (A0 : Option Addr) (m0 c0 : Nat) (n : Int) (A : Option Addr) (m c : Nat) : ∃ W0, w.alloc (.cells #[.int .i64 N0, .slice A0 m0 c0, .int .i64 n, .slice A m c] 24) = W0 ∧ Blk W0 w.heap.size 24 #[.int .i64 N0, .slice A0 m0 c0, .int .i64 n, .slice A m c] ∧ Below w.heap.size w W0 ∧ W0.heap.size = w.heap.size + 1 := ⟨_, rfl, Blk.new _ _ _, (Below.refl _ _).alloc (Nat.le_refl _) _, by simp⟩
theorem rowE3 (w : World) (a b c d e f g h i : Value) : ∃ W0, w.alloc (.cells #[a, b, c, d, e, f, g, h, i] 28) = W0 ∧ Blk W0 w.heap.size 28 #[a, b, c, d, e, f, g, h, i] ∧ Below w.heap.size w W0 ∧ W0.heap.size = w.heap.size + 1 := ⟨_, rfl, Blk.new _ _ _, (Below.refl _ _).alloc (Nat.le_refl _) _, by simp⟩
theorem OwnP.len {w : World} {b n c : Nat} {A : Option Addr} {l : List (Int × Int)} (h : OwnP w b (.slice A n c) l) : n = l.length := by
  obtain ⟨A', c', e, _⟩ := h.form
  injection e
theorem rp_tail {w : World} {b o : Nat} {l : List (Int × Int)} {c : Nat} (h : RP w (some ⟨b, o, none⟩) l) (hc : l.length ≤ c) : RP w (some (if c = 1 then ⟨b, o, none⟩ else (⟨b, o, none⟩ : Addr).add (1 * 2))) (l.drop 1) := by
  intro k hk
  rw [List.length_drop] at hk
  rw [if_neg (by omega)]
  obtain ⟨b', o', e, h1, h2⟩ := h (k + 1) (by omega)
  injection e with e
  injection e with e1 e2
  subst e1; subst e2
  refine ⟨b, o + 2, by rw [plainA], ?_, ?_⟩
  · rw [show o + 2 + k * 2 = o + (k + 1) * 2 by omega, h1]
    simp [List.getD]
  · rw [show o + 2 + k * 2 + 1 = o + (k + 1) * 2 + 1 by omega, h2]
    simp [List.getD]
set_option maxRecDepth 100000 in
set_option maxHeartbeats 16000000 in
theorem chs_law_any (A0 : Option Addr) (N0 : Int) (l0 : List (Int × Int)) (c0 : Nat) (VA : Option Addr) (gs : List Int) (gc0 : Nat) (VB : Option Addr) (gC : List (Int × Int)) (gd : Nat) (VD : Option Addr) (gO : List (List (Int × Int))) (ge : Nat) (A : Option Addr) (arg : List Int) (c : Nat) (kind : Int) (w : World)
    (_hl0 : l0.length ≤ 9223372036854775807) (hr0 : RP w A0 l0) (hn0 : A0 = none → l0 = [] ∧ c0 = 0) (hlc0 : l0.length ≤ c0) (_hc0 : c0 ≤ 9223372036854775807)
    (hgs : RI w VA gs) (hgC : RP w VB gC) (hgO : RTo w VD gO) (hgd : gC.length ≤ gd) (hge : gO.length ≤ 9223372036854775807) (hgi : ∀ l ∈ gO, ∀ p ∈ l, I64 p) (hwt : gs.length ≤ 140737488355328 ∧ gC.length ≤ 140737488355328 ∧ ∀ l ∈ gO, l.length ≤ 140737488355328)
    (hlc : arg.length ≤ c) (hc : c ≤ 9223372036854775807) (hr : RI w A arg) (hx : ∀ x ∈ arg, -9223372036854775808 ≤ x ∧ x ≤ 9223372036854775807) (hT : Tab w) :
    Calls Tryd.prog 3 #[.agg #[.int .i64 N0, .slice A0 l0.length c0], .agg #[.slice VA gs.length gc0, .slice VB gC.length gd, .slice VD gO.length ge], .slice A arg.length c, .int .i64 kind] w (RetB (.bool true) w) := by
  have Hr := Lib.hid hr; have Hx := Lib.hid hx; have Hn0 := Lib.hid hn0
  have hlg := fun X (h : Below w.heap.size w X) => light_all VA gs gc0 VB gC gd VD gO ge X (hgO.below h) (by omega) (by omega) hge (fun l hl => Nat.le_trans (hwt.2.2 l hl) (by decide))
  have Hgv := Lib.hid (And.intro hgs (And.intro hgC (And.intro hgO (And.intro hgd hgi))))
  clear hr hx hn0 hgs hgC hgO hgi hwt
  obtain ⟨lg, hlge⟩ : ∃ lg, ligB gs gC gO = lg := ⟨_, rfl⟩
  rw [hlge] at hlg
  have Hlg := Lib.hid hlg; have Hlge := Lib.hid hlge
  clear hlg hlge
  go_enter Tryd.func3, Tryd.ntmps3
  go_upto_region 1 with fail
  obtain ⟨W0, hW, k0, hb0, hs0⟩ := boxG w N0 A0 l0.length c0
  rw [hW]
  obtain ⟨W1, hW1, k1, hb1, hs1'⟩ := boxEn W0 (.slice VA gs.length gc0) (.slice VB gC.length gd) (.slice VD gO.length ge)
  rw [hW1]
  have hb01 := endB hb0 hb1
  have k01 := k0.below hb1 k0.lt
  rw [hs0] at k1
  clear hW hW1 k0 hb0 hb1 hs0 hs1'
  have hawk := fun X (h : Below w.heap.size w X) => awake21_any X (hT.below h)
  have Hawk := Lib.hid hawk
  clear hawk
  obtain ⟨z0, z1, -, -⟩ := k01.two
  have hli := nwLight_any A0 N0 l0 c0 W1
  obtain ⟨u, hu⟩ : ∃ u, decide (l0.length ≤ 300) = u := ⟨_, rfl⟩
  rw [hu] at hli
  have Hli := Lib.hid hli; have Hu := Lib.hid hu
  clear hli hu
  go_wp2_with fail
  refine Hli.out.mono ?_
  rintro e w1 ⟨rfl, hb1⟩
  have hB1 := endB hb01 hb1
  have k02 := k01.below hb1 k01.lt
  have k12 := k1.below hb1 k1.lt
  clear k01 k1 z0 z1 hb01 hb1
  cases u
  case false =>
    go_wp2_with fail
    refine (Hawk.out _ hB1).mono ?_
    rintro e wz ⟨rfl, hbz⟩
    go_wp2_with fail
    go_ret
    exact ⟨rfl, endB hB1 hbz⟩
  have hl300 : l0.length ≤ 300 := of_decide_eq_true Hu.out
  obtain ⟨y0, y1, y2, _, _⟩ := k12.threeE
  go_wp2_with fail
  refine (Hlg.out w1 hB1).mono ?_
  rintro e w2 ⟨rfl, hb2⟩
  have hB2 := endB hB1 hb2
  have k03 := k02.below hb2 k02.lt
  have k13 := k12.below hb2 k12.lt
  clear k02 k12 y0 y1 y2 hB1 hb2
  cases lg
  case false =>
    go_wp2_with fail
    refine (Hawk.out _ hB2).mono ?_
    rintro e wz ⟨rfl, hbz⟩
    go_wp2_with fail
    go_ret
    exact ⟨rfl, endB hB2 hbz⟩
  have hlig : gs.length + gC.length + gO.flatten.length ≤ 200 ∧ gO.length ≤ 60 := of_decide_eq_true Hlge.out
  have Hlig := Lib.hid hlig
  clear hlig
  go_wp2_with fail
  refine (new_any A arg c w2 hlc hc (Hr.out.below hB2) Hx.out).mono ?_
  rintro e w3 ⟨p, rfl, hp, hs3, hb3⟩
  have hB3 := endB hB2 hb3
  have k04 := k03.below hb3 k03.lt
  have k14 := k13.below hb3 k13.lt
  go_wp2_with fail
  refine (netGraphC_any p 6 w3 hs3 (by omega) (by omega)).mono ?_
  rintro e w4 ⟨n, l, AL, cl, rfl, hN1, hN, hv, hrp, hloc, hs4, hg4, hAn, hAc⟩
  have hw1 := k13.lt
  have hwp : w.heap.size + 1 < p := Nat.lt_of_lt_of_le hw1 hp
  have hB4 : Below w.heap.size w w4 := hB3.trans (below_of_grownBy hg4 (by omega) hB3.size)
  have hpl3 := hs3.lt
  have k05 := k04.grown hg4 (by simp; omega)
  have k15 := k14.grown hg4 (by simp; omega)
  have hll9 : l.length ≤ 36 := Nat.le_trans (len_vld2 hv) (Nat.mul_le_mul hN hN)
  have HV := Lib.hid hv; have HAn := Lib.hid (And.intro hAn hAc)
  have hALp : ∀ b o, AL = some ⟨b, o, none⟩ → b ≠ p := fun b o e => by have := hloc b o e; omega
  have HALp := Lib.hid hALp
  clear hs3 hb3 hg4 hv hloc hAn hAc k03 k13 k04 k14 hB2 hB3 hw1 hALp
  go_upto_region 5 with fail
  obtain ⟨W4, hW, kg, hbg, hsg⟩ := boxG w4 (n : Int) AL l.length cl
  rw [hW]
  have hB5 := endB hB4 hbg
  have k06 := k05.below hbg k05.lt
  have k16 := k15.below hbg k15.lt
  have hrp4 := hrp.below hbg
  have hs5 := hs4.kept hbg
  have hpl4 := hs4.lt
  clear hW hrp hs4 k05 k15 hbg hB4 hsg
  go_wp2_with fail
  refine (krange_any p 1 2 W4 hs5 (by decide) (by decide) (by decide)).mono ?_
  rintro e w5 ⟨kd, rfl, hkd1, hkd2, hs6, hg5⟩
  have hkd : kd = 1 ∨ kd = 2 := by omega
  have hB6 : Below w.heap.size w w5 := hB5.trans (below_of_grownBy hg5 (by omega) hB5.size)
  have k07 := k06.grown hg5 (by simp; omega)
  have k17 := k16.grown hg5 (by simp; omega)
  have kg5 := kg.grown hg5 (by simp; omega)
  have hrp5 := hrp4.grown hg5 HALp.out
  have hp5 := hs6.lt
  have hgz : w4.heap.size < w5.heap.size := kg5.lt
  clear hg5 hs5 k06 k16 kg hrp4 hB5 hkd1 hkd2
  obtain ⟨W5, hW5⟩ : ∃ W5, W5 = w5 := ⟨_, rfl⟩
  subst hW5
  have hs5 := hs6
  have HRP := Lib.hid (fun (W : World) (h : W5.grownBy W (some p)) => hrp5.grown h HALp.out)
  clear hs6 hrp5
  generalize hgg : w4.heap.size = gg at *
  go_upto_region 6 with fail
  go_cut [12] (fun v wx => ∃ q v1 v2 v3, v = .pointer (some ⟨q, 0, none⟩) ∧ SrcOk wx p ∧ W5.grownBy wx (some p) ∧ Blk wx q 28 #[v1, v2, v3] ∧ XO W5.heap.size wx v1 v2 v3)
  case first => as_aux_lemma =>
    refine wp_region_tree [4, 6, 10, 11] (fun w' => SrcOk w' p ∧ W5.grownBy w' (some p)) (fun w' => R6 W5.heap.size none (fun _ => True) (fun _ => True) w') 13 [0, 1, 2, 3, 4, 5, 6, 7, 8, 9, 10, 11, 12] (by rfl) (by decide) (by kernel_rfl) (by kernel_rfl) ⟨hs5.kept (Below.refl _ _).drew, grownBy_of_below (Below.refl _ _).drew _⟩ ⟨fun g e => (by cases e), trivial, trivial⟩ ?_
    refine TxtT.pure 0 (by rfl) (by rw [gA]; rfl) (by rfl) (by as_aux_lemma => kernel_rfl) (by rfl) ?_; apply Exists.intro; refine ⟨fun w1 hS1 => ?_, ?_⟩; (focus ((obtain ⟨g0, g1, -, -⟩ := (kg5.grown hS1.2 (fun e => by injection e with e; omega)).two); go_simp; with_reducible rfl))
    rw [show List.erase [0, 1, 2, 3, 4, 5, 6, 7, 8, 9, 10, 11, 12] 0 = [1, 2, 3, 4, 5, 6, 7, 8, 9, 10, 11, 12] from rfl]; simp only [Act.put, pA, pB, pC]
    refine TxtT.pure 1 (by rfl) (by rw [gA]; rfl) (by rfl) (by as_aux_lemma => kernel_rfl) (by rfl) ?_; apply Exists.intro; refine ⟨fun w1 hS1 => ?_, ?_⟩; (focus (skip; go_simp; with_reducible rfl))
    rw [show List.erase [1, 2, 3, 4, 5, 6, 7, 8, 9, 10, 11, 12] 1 = [2, 3, 4, 5, 6, 7, 8, 9, 10, 11, 12] from rfl]; simp only [Act.put, pA, pB, pC]
    refine TxtT.pure 2 (by rfl) (by rw [gA]; rfl) (by rfl) (by as_aux_lemma => kernel_rfl) (by rfl) ?_; apply Exists.intro; refine ⟨fun w1 hS1 => ?_, ?_⟩; (focus (skip; go_simp; with_reducible rfl))
    rw [show List.erase [2, 3, 4, 5, 6, 7, 8, 9, 10, 11, 12] 2 = [3, 4, 5, 6, 7, 8, 9, 10, 11, 12] from rfl]; simp only [Act.put, pA, pB, pC]
    refine TxtT.pure 3 (by rfl) (by rw [gA]; rfl) (by rfl) (by as_aux_lemma => kernel_rfl) (by rfl) ?_; apply Exists.intro; refine ⟨fun w1 hS1 => ?_, ?_⟩; (focus ((obtain ⟨g0, g1, -, -⟩ := (kg5.grown hS1.2 (fun e => by injection e with e; omega)).two); go_simp; with_reducible rfl))
    rw [show List.erase [3, 4, 5, 6, 7, 8, 9, 10, 11, 12] 3 = [4, 5, 6, 7, 8, 9, 10, 11, 12] from rfl]; simp only [Act.put, pA, pB, pC]
    refine TxtT.pure 5 (by rfl) (by rw [gA]; rfl) (by rfl) (by as_aux_lemma => kernel_rfl) (by rfl) ?_; apply Exists.intro; refine ⟨fun w1 hS1 => ?_, ?_⟩; (focus (skip; go_simp; with_reducible rfl))
    rw [show List.erase [4, 5, 6, 7, 8, 9, 10, 11, 12] 5 = [4, 6, 7, 8, 9, 10, 11, 12] from rfl]; simp only [Act.put, pA, pB, pC]
    refine TxtT.two 4 10 (by as_aux_lemma => kernel_rfl) (by rw [gA]; rfl) (by rw [gA]; rfl) (by rfl) (by rfl) (by rfl) (by rfl) (fun v => ∃ A4 n4 c4, v = Value.slice A4 n4 c4) (fun v w' => ∃ A4 n4 c4, v = Value.slice A4 n4 c4 ∧ R6 W5.heap.size none (fun w => S5 n A4 n4 c4 w) (fun _ => True) w') (fun v => ∃ q, v = Value.pointer (some ⟨q, 0, none⟩)) (fun v w' => ∃ q, v = Value.pointer (some ⟨q, 0, none⟩) ∧ R6 W5.heap.size (some q) (fun _ => True) (fun _ => True) w') (fun w1 hS1 hJ1 => ?_) (fun w1 hS1 hJ1 => ?_) ?_ ?_
    · refine Eff.call (f := 18) (args := #[.pointer (some ⟨p, 0, none⟩), .int .i64 (n : Int)]) (by go_simp) ((nwSome_any p n w1 hS1.1 (by omega)).mono ?_)
      rintro e w' ⟨S, AS, cS, rfl, hset, hSo, hs, hg⟩
      exact ⟨_, rfl, ⟨hs, grownBy_trans hS1.2 hg⟩, ⟨AS, _, cS, rfl⟩, AS, _, cS, rfl, hJ1.read4 hg hp5 (S5.of hset hSo)⟩
    · exact Eff.value (w' := w1.alloc (.cells #[.slice none 0 0, .slice none 0 0, .slice none 0 0] 28)) (v := .pointer (some ⟨w1.heap.size, 0, none⟩)) (by go_simp) ⟨⟨hS1.1.kept (newB _ _), grownBy_trans hS1.2 (grownBy_of_below (newB _ _) _)⟩, ⟨_, rfl⟩, _, rfl, hJ1.box hS1.2.size (fun h => h) (fun h => h)⟩
    ·
     rintro _ ⟨A4, n4, c4, rfl⟩
     rw [show List.erase [4, 6, 7, 8, 9, 10, 11, 12] 4 = [6, 7, 8, 9, 10, 11, 12] from rfl]; simp only [Act.put, pA, pB, pC]
     refine wkS (F := fun A4 n4 c4 w' => R6 W5.heap.size none (fun w => S5 n A4 n4 c4 w) (fun _ => True) w') ?_
     refine TxtT.two 6 10 (by as_aux_lemma => kernel_rfl) (by rw [gA]; rfl) (by rw [gA]; rfl) (by rfl) (by rfl) (by rfl) (by rfl) (fun v => ∃ a1 n1 k1 a2 n2 k2 a3 n3 k3 er, v = Value.tuple #[.agg #[.slice a1 n1 k1, .slice a2 n2 k2, .slice a3 n3 k3], .int .i64 er]) (fun v w' => ∃ a1 n1 k1 a2 n2 k2 a3 n3 k3 er, v = Value.tuple #[.agg #[.slice a1 n1 k1, .slice a2 n2 k2, .slice a3 n3 k3], .int .i64 er] ∧ R6 W5.heap.size none (fun _ => True) (fun w => XO W5.heap.size w (.slice a1 n1 k1) (.slice a2 n2 k2) (.slice a3 n3 k3)) w') (fun v => ∃ q, v = Value.pointer (some ⟨q, 0, none⟩)) (fun v w' => ∃ q, v = Value.pointer (some ⟨q, 0, none⟩) ∧ R6 W5.heap.size (some q) (fun w => S5 n A4 n4 c4 w) (fun _ => True) w') (fun w1 hS1 hJ1 => ?_) (fun w1 hS1 hJ1 => ?_) ?_ ?_
     · have hrp1 := HRP.out w1 hS1.2
       have h64 : ∃ S : List Int, n4 = S.length ∧ setB n S = true ∧ RI w1 A4 S ∧ (A4 = none → S = [] ∧ c4 = 0) := hJ1.p4
       obtain ⟨S, hS4, hset, hri, hnn⟩ := h64
       have hSl := setB_len hset
       rw [hS4]
       have HVo := HV.out
       refine Eff.call (f := 17) (args := #[.agg #[.int .i64 (n : Int), .slice AL l.length cl], .slice A4 S.length c4, .int .i64 kd]) (by go_simp) ((rStrict_any AL (n : Int) l cl A4 S c4 kd w1 hrp1 (by omega) hri hnn (by omega)).mono ?_)
       intro e w' h6
       obtain ⟨hb6, v1, v2, v3, er, rfl, hx⟩ := xo_of h6 HVo hset hkd (by omega)
       obtain ⟨a1, z1, k1, a2, z2, k2, a3, z3, k3, xx, rfl, rfl, rfl, -⟩ := hx.zx
       exact ⟨_, rfl, ⟨hS1.1.kept hb6, grownBy_trans hS1.2 (grownBy_of_below hb6 _)⟩, ⟨a1, _, k1, a2, _, k2, a3, _, k3, er, rfl⟩, a1, _, k1, a2, _, k2, a3, _, k3, er, rfl, hJ1.read6 hb6 (hx.mono hS1.2.size)⟩
     · exact Eff.value (w' := w1.alloc (.cells #[.slice none 0 0, .slice none 0 0, .slice none 0 0] 28)) (v := .pointer (some ⟨w1.heap.size, 0, none⟩)) (by go_simp) ⟨⟨hS1.1.kept (newB _ _), grownBy_trans hS1.2 (grownBy_of_below (newB _ _) _)⟩, ⟨_, rfl⟩, _, rfl, hJ1.box hS1.2.size (fun h => S5.below h (newB _ _)) (fun h => h)⟩
     ·
      rintro _ ⟨a1, n1, k1, a2, n2, k2, a3, n3, k3, er, rfl⟩
      rw [show List.erase [6, 7, 8, 9, 10, 11, 12] 6 = [7, 8, 9, 10, 11, 12] from rfl]; simp only [Act.put, pA, pB, pC]
      refine TxtT.weakJ (J2 := fun w' => R6 W5.heap.size none (fun _ => True) (fun w => XO W5.heap.size w (.slice a1 n1 k1) (.slice a2 n2 k2) (.slice a3 n3 k3)) w') (fun w1 h => by obtain ⟨b1, b2, b3, b4, b5, b6, b7, b8, b9, b10, hq, h⟩ := h; obtain ⟨h1, h2, h3, rfl⟩ := tup_inj hq; simp only [Value.slice.injEq] at h1 h2 h3; obtain ⟨rfl, rfl, rfl⟩ := h1; obtain ⟨rfl, rfl, rfl⟩ := h2; obtain ⟨rfl, rfl, rfl⟩ := h3; exact h) ?_
      refine TxtT.pure 7 (by rfl) (by rw [gA]; rfl) (by rfl) (by as_aux_lemma => kernel_rfl) (by rfl) ?_; apply Exists.intro; refine ⟨fun w1 hS1 => ?_, ?_⟩; (focus (skip; go_simp; with_reducible rfl))
      rw [show List.erase [7, 8, 9, 10, 11, 12] 7 = [8, 9, 10, 11, 12] from rfl]; simp only [Act.put, pA, pB, pC]
      refine TxtT.pure 8 (by rfl) (by rw [gA]; rfl) (by rfl) (by as_aux_lemma => kernel_rfl) (by rfl) ?_; apply Exists.intro; refine ⟨fun w1 hS1 => ?_, ?_⟩; (focus (skip; go_simp; with_reducible rfl))
      rw [show List.erase [8, 9, 10, 11, 12] 8 = [9, 10, 11, 12] from rfl]; simp only [Act.put, pA, pB, pC]
      refine TxtT.pure 9 (by rfl) (by rw [gA]; rfl) (by rfl) (by as_aux_lemma => kernel_rfl) (by rfl) ?_; apply Exists.intro; refine ⟨fun w1 hS1 => ?_, ?_⟩; (focus (skip; go_simp; with_reducible rfl))
      rw [show List.erase [9, 10, 11, 12] 9 = [10, 11, 12] from rfl]; simp only [Act.put, pA, pB, pC]
      refine TxtT.one 10 (by as_aux_lemma => kernel_rfl) (by rw [gA]; rfl) (by rfl) (by rfl) (fun v => ∃ q, v = Value.pointer (some ⟨q, 0, none⟩)) (fun v w' => ∃ q, v = Value.pointer (some ⟨q, 0, none⟩) ∧ R6 W5.heap.size (some q) (fun _ => True) (fun w => XO W5.heap.size w (.slice a1 n1 k1) (.slice a2 n2 k2) (.slice a3 n3 k3)) w') (fun w1 hS1 hJ1 => ?_) ?_
      · exact Eff.value (w' := w1.alloc (.cells #[.slice none 0 0, .slice none 0 0, .slice none 0 0] 28)) (v := .pointer (some ⟨w1.heap.size, 0, none⟩)) (by go_simp) ⟨⟨hS1.1.kept (newB _ _), grownBy_trans hS1.2 (grownBy_of_below (newB _ _) _)⟩, ⟨_, rfl⟩, _, rfl, hJ1.box hS1.2.size (fun h => h) (fun h => XO.below h (newB _ _))⟩
      rintro _ ⟨q, rfl⟩
      rw [show List.erase [10, 11, 12] 10 = [11, 12] from rfl]; simp only [Act.put, pA, pB, pC]
      refine wkP (F := fun q w' => R6 W5.heap.size (some q) (fun _ => True) (fun w => XO W5.heap.size w (.slice a1 n1 k1) (.slice a2 n2 k2) (.slice a3 n3 k3)) w') ?_
      refine TxtT.one 11 (by as_aux_lemma => kernel_rfl) (by rw [gA]; rfl) (by rfl) (by rfl) (fun v => v = undef) (fun _ w' => Blk w' q 28 #[.slice a1 n1 k1, .slice a2 n2 k2, .slice a3 n3 k3] ∧ XO W5.heap.size w' (.slice a1 n1 k1) (.slice a2 n2 k2) (.slice a3 n3 k3)) (fun w1 hS1 hJ1 => ?_) ?_
      · obtain ⟨hq1, hk⟩ := hJ1.bx q rfl
        obtain ⟨g0, g1, g2, f1, f2⟩ := hk.threeE
        have f0 := hk.frozen 0
        have hst := st6 hS1.1 hS1.2 hp5 hq1 hk hJ1.p6
        exact Eff.skip (w' := ((w1.setCell ⟨q, 0, none⟩ (.slice a1 n1 k1)).setCell ⟨q, 1, none⟩ (.slice a2 n2 k2)).setCell ⟨q, 2, none⟩ (.slice a3 n3 k3)) (by go_simp) ⟨hst.1, rfl, hst.2⟩
      rintro _ rfl
      rw [show List.erase [11, 12] 11 = [12] from rfl]; simp only [Act.put]
      refine TxtT.pure 12 (by rfl) (by rw [gA]; rfl) (by rfl) (by as_aux_lemma => kernel_rfl) (by rfl) ?_; apply Exists.intro; refine ⟨fun w1 hS1 => ?_, ?_⟩; (focus (skip; go_simp; with_reducible rfl))
      rw [show List.erase [12] 12 = [] from rfl]; simp only [Act.put, pA, pB, pC]
      refine ⟨rfl, fun w1 hS1 hJ1 => ?_⟩
      go_wp2_with fail
      go_meet
      exact ⟨q, _, _, _, rfl, hS1.1, hS1.2, hJ1.1, hJ1.2⟩
     ·
      rintro _ ⟨q, rfl⟩
      rw [show List.erase [6, 7, 8, 9, 10, 11, 12] 10 = [6, 7, 8, 9, 11, 12] from rfl]; simp only [Act.put, pA, pB, pC]
      refine wkP (F := fun q w' => R6 W5.heap.size (some q) (fun w => S5 n A4 n4 c4 w) (fun _ => True) w') ?_
      refine TxtT.one 6 (by as_aux_lemma => kernel_rfl) (by rw [gA]; rfl) (by rfl) (by rfl) (fun v => ∃ a1 n1 k1 a2 n2 k2 a3 n3 k3 er, v = Value.tuple #[.agg #[.slice a1 n1 k1, .slice a2 n2 k2, .slice a3 n3 k3], .int .i64 er]) (fun v w' => ∃ a1 n1 k1 a2 n2 k2 a3 n3 k3 er, v = Value.tuple #[.agg #[.slice a1 n1 k1, .slice a2 n2 k2, .slice a3 n3 k3], .int .i64 er] ∧ R6 W5.heap.size (some q) (fun _ => True) (fun w => XO W5.heap.size w (.slice a1 n1 k1) (.slice a2 n2 k2) (.slice a3 n3 k3)) w') (fun w1 hS1 hJ1 => ?_) ?_
      · have hrp1 := HRP.out w1 hS1.2
        have h64 : ∃ S : List Int, n4 = S.length ∧ setB n S = true ∧ RI w1 A4 S ∧ (A4 = none → S = [] ∧ c4 = 0) := hJ1.p4
        obtain ⟨S, hS4, hset, hri, hnn⟩ := h64
        have hSl := setB_len hset
        rw [hS4]
        have HVo := HV.out
        refine Eff.call (f := 17) (args := #[.agg #[.int .i64 (n : Int), .slice AL l.length cl], .slice A4 S.length c4, .int .i64 kd]) (by go_simp) ((rStrict_any AL (n : Int) l cl A4 S c4 kd w1 hrp1 (by omega) hri hnn (by omega)).mono ?_)
        intro e w' h6
        obtain ⟨hb6, v1, v2, v3, er, rfl, hx⟩ := xo_of h6 HVo hset hkd (by omega)
        obtain ⟨a1, z1, k1, a2, z2, k2, a3, z3, k3, xx, rfl, rfl, rfl, -⟩ := hx.zx
        exact ⟨_, rfl, ⟨hS1.1.kept hb6, grownBy_trans hS1.2 (grownBy_of_below hb6 _)⟩, ⟨a1, _, k1, a2, _, k2, a3, _, k3, er, rfl⟩, a1, _, k1, a2, _, k2, a3, _, k3, er, rfl, hJ1.read6 hb6 (hx.mono hS1.2.size)⟩
      rintro _ ⟨a1, n1, k1, a2, n2, k2, a3, n3, k3, er, rfl⟩
      rw [show List.erase [6, 7, 8, 9, 11, 12] 6 = [7, 8, 9, 11, 12] from rfl]; simp only [Act.put, pA, pB, pC]
      refine TxtT.weakJ (J2 := fun w' => R6 W5.heap.size (some q) (fun _ => True) (fun w => XO W5.heap.size w (.slice a1 n1 k1) (.slice a2 n2 k2) (.slice a3 n3 k3)) w') (fun w1 h => by obtain ⟨b1, b2, b3, b4, b5, b6, b7, b8, b9, b10, hq, h⟩ := h; obtain ⟨h1, h2, h3, rfl⟩ := tup_inj hq; simp only [Value.slice.injEq] at h1 h2 h3; obtain ⟨rfl, rfl, rfl⟩ := h1; obtain ⟨rfl, rfl, rfl⟩ := h2; obtain ⟨rfl, rfl, rfl⟩ := h3; exact h) ?_
      refine TxtT.pure 7 (by rfl) (by rw [gA]; rfl) (by rfl) (by as_aux_lemma => kernel_rfl) (by rfl) ?_; apply Exists.intro; refine ⟨fun w1 hS1 => ?_, ?_⟩; (focus (skip; go_simp; with_reducible rfl))
      rw [show List.erase [7, 8, 9, 11, 12] 7 = [8, 9, 11, 12] from rfl]; simp only [Act.put, pA, pB, pC]
      refine TxtT.pure 8 (by rfl) (by rw [gA]; rfl) (by rfl) (by as_aux_lemma => kernel_rfl) (by rfl) ?_; apply Exists.intro; refine ⟨fun w1 hS1 => ?_, ?_⟩; (focus (skip; go_simp; with_reducible rfl))
      rw [show List.erase [8, 9, 11, 12] 8 = [9, 11, 12] from rfl]; simp only [Act.put, pA, pB, pC]
      refine TxtT.pure 9 (by rfl) (by rw [gA]; rfl) (by rfl) (by as_aux_lemma => kernel_rfl) (by rfl) ?_; apply Exists.intro; refine ⟨fun w1 hS1 => ?_, ?_⟩; (focus (skip; go_simp; with_reducible rfl))
      rw [show List.erase [9, 11, 12] 9 = [11, 12] from rfl]; simp only [Act.put, pA, pB, pC]
      refine TxtT.one 11 (by as_aux_lemma => kernel_rfl) (by rw [gA]; rfl) (by rfl) (by rfl) (fun v => v = undef) (fun _ w' => Blk w' q 28 #[.slice a1 n1 k1, .slice a2 n2 k2, .slice a3 n3 k3] ∧ XO W5.heap.size w' (.slice a1 n1 k1) (.slice a2 n2 k2) (.slice a3 n3 k3)) (fun w1 hS1 hJ1 => ?_) ?_
      · obtain ⟨hq1, hk⟩ := hJ1.bx q rfl
        obtain ⟨g0, g1, g2, f1, f2⟩ := hk.threeE
        have f0 := hk.frozen 0
        have hst := st6 hS1.1 hS1.2 hp5 hq1 hk hJ1.p6
        exact Eff.skip (w' := ((w1.setCell ⟨q, 0, none⟩ (.slice a1 n1 k1)).setCell ⟨q, 1, none⟩ (.slice a2 n2 k2)).setCell ⟨q, 2, none⟩ (.slice a3 n3 k3)) (by go_simp) ⟨hst.1, rfl, hst.2⟩
      rintro _ rfl
      rw [show List.erase [11, 12] 11 = [12] from rfl]; simp only [Act.put]
      refine TxtT.pure 12 (by rfl) (by rw [gA]; rfl) (by rfl) (by as_aux_lemma => kernel_rfl) (by rfl) ?_; apply Exists.intro; refine ⟨fun w1 hS1 => ?_, ?_⟩; (focus (skip; go_simp; with_reducible rfl))
      rw [show List.erase [12] 12 = [] from rfl]; simp only [Act.put, pA, pB, pC]
      refine ⟨rfl, fun w1 hS1 hJ1 => ?_⟩
      go_wp2_with fail
      go_meet
      exact ⟨q, _, _, _, rfl, hS1.1, hS1.2, hJ1.1, hJ1.2⟩
    ·
     rintro _ ⟨q, rfl⟩
     rw [show List.erase [4, 6, 7, 8, 9, 10, 11, 12] 10 = [4, 6, 7, 8, 9, 11, 12] from rfl]; simp only [Act.put, pA, pB, pC]
     refine wkP (F := fun q w' => R6 W5.heap.size (some q) (fun _ => True) (fun _ => True) w') ?_
     refine TxtT.one 4 (by as_aux_lemma => kernel_rfl) (by rw [gA]; rfl) (by rfl) (by rfl) (fun v => ∃ A4 n4 c4, v = Value.slice A4 n4 c4) (fun v w' => ∃ A4 n4 c4, v = Value.slice A4 n4 c4 ∧ R6 W5.heap.size (some q) (fun w => S5 n A4 n4 c4 w) (fun _ => True) w') (fun w1 hS1 hJ1 => ?_) ?_
     · refine Eff.call (f := 18) (args := #[.pointer (some ⟨p, 0, none⟩), .int .i64 (n : Int)]) (by go_simp) ((nwSome_any p n w1 hS1.1 (by omega)).mono ?_)
       rintro e w' ⟨S, AS, cS, rfl, hset, hSo, hs, hg⟩
       exact ⟨_, rfl, ⟨hs, grownBy_trans hS1.2 hg⟩, ⟨AS, _, cS, rfl⟩, AS, _, cS, rfl, hJ1.read4 hg hp5 (S5.of hset hSo)⟩
     rintro _ ⟨A4, n4, c4, rfl⟩
     rw [show List.erase [4, 6, 7, 8, 9, 11, 12] 4 = [6, 7, 8, 9, 11, 12] from rfl]; simp only [Act.put, pA, pB, pC]
     refine wkS (F := fun A4 n4 c4 w' => R6 W5.heap.size (some q) (fun w => S5 n A4 n4 c4 w) (fun _ => True) w') ?_
     refine TxtT.one 6 (by as_aux_lemma => kernel_rfl) (by rw [gA]; rfl) (by rfl) (by rfl) (fun v => ∃ a1 n1 k1 a2 n2 k2 a3 n3 k3 er, v = Value.tuple #[.agg #[.slice a1 n1 k1, .slice a2 n2 k2, .slice a3 n3 k3], .int .i64 er]) (fun v w' => ∃ a1 n1 k1 a2 n2 k2 a3 n3 k3 er, v = Value.tuple #[.agg #[.slice a1 n1 k1, .slice a2 n2 k2, .slice a3 n3 k3], .int .i64 er] ∧ R6 W5.heap.size (some q) (fun _ => True) (fun w => XO W5.heap.size w (.slice a1 n1 k1) (.slice a2 n2 k2) (.slice a3 n3 k3)) w') (fun w1 hS1 hJ1 => ?_) ?_
     · have hrp1 := HRP.out w1 hS1.2
       have h64 : ∃ S : List Int, n4 = S.length ∧ setB n S = true ∧ RI w1 A4 S ∧ (A4 = none → S = [] ∧ c4 = 0) := hJ1.p4
       obtain ⟨S, hS4, hset, hri, hnn⟩ := h64
       have hSl := setB_len hset
       rw [hS4]
       have HVo := HV.out
       refine Eff.call (f := 17) (args := #[.agg #[.int .i64 (n : Int), .slice AL l.length cl], .slice A4 S.length c4, .int .i64 kd]) (by go_simp) ((rStrict_any AL (n : Int) l cl A4 S c4 kd w1 hrp1 (by omega) hri hnn (by omega)).mono ?_)
       intro e w' h6
       obtain ⟨hb6, v1, v2, v3, er, rfl, hx⟩ := xo_of h6 HVo hset hkd (by omega)
       obtain ⟨a1, z1, k1, a2, z2, k2, a3, z3, k3, xx, rfl, rfl, rfl, -⟩ := hx.zx
       exact ⟨_, rfl, ⟨hS1.1.kept hb6, grownBy_trans hS1.2 (grownBy_of_below hb6 _)⟩, ⟨a1, _, k1, a2, _, k2, a3, _, k3, er, rfl⟩, a1, _, k1, a2, _, k2, a3, _, k3, er, rfl, hJ1.read6 hb6 (hx.mono hS1.2.size)⟩
     rintro _ ⟨a1, n1, k1, a2, n2, k2, a3, n3, k3, er, rfl⟩
     rw [show List.erase [6, 7, 8, 9, 11, 12] 6 = [7, 8, 9, 11, 12] from rfl]; simp only [Act.put, pA, pB, pC]
     refine TxtT.weakJ (J2 := fun w' => R6 W5.heap.size (some q) (fun _ => True) (fun w => XO W5.heap.size w (.slice a1 n1 k1) (.slice a2 n2 k2) (.slice a3 n3 k3)) w') (fun w1 h => by obtain ⟨b1, b2, b3, b4, b5, b6, b7, b8, b9, b10, hq, h⟩ := h; obtain ⟨h1, h2, h3, rfl⟩ := tup_inj hq; simp only [Value.slice.injEq] at h1 h2 h3; obtain ⟨rfl, rfl, rfl⟩ := h1; obtain ⟨rfl, rfl, rfl⟩ := h2; obtain ⟨rfl, rfl, rfl⟩ := h3; exact h) ?_
     refine TxtT.pure 7 (by rfl) (by rw [gA]; rfl) (by rfl) (by as_aux_lemma => kernel_rfl) (by rfl) ?_; apply Exists.intro; refine ⟨fun w1 hS1 => ?_, ?_⟩; (focus (skip; go_simp; with_reducible rfl))
     rw [show List.erase [7, 8, 9, 11, 12] 7 = [8, 9, 11, 12] from rfl]; simp only [Act.put, pA, pB, pC]
     refine TxtT.pure 8 (by rfl) (by rw [gA]; rfl) (by rfl) (by as_aux_lemma => kernel_rfl) (by rfl) ?_; apply Exists.intro; refine ⟨fun w1 hS1 => ?_, ?_⟩; (focus (skip; go_simp; with_reducible rfl))
     rw [show List.erase [8, 9, 11, 12] 8 = [9, 11, 12] from rfl]; simp only [Act.put, pA, pB, pC]
     refine TxtT.pure 9 (by rfl) (by rw [gA]; rfl) (by rfl) (by as_aux_lemma => kernel_rfl) (by rfl) ?_; apply Exists.intro; refine ⟨fun w1 hS1 => ?_, ?_⟩; (focus (skip; go_simp; with_reducible rfl))
     rw [show List.erase [9, 11, 12] 9 = [11, 12] from rfl]; simp only [Act.put, pA, pB, pC]
     refine TxtT.one 11 (by as_aux_lemma => kernel_rfl) (by rw [gA]; rfl) (by rfl) (by rfl) (fun v => v = undef) (fun _ w' => Blk w' q 28 #[.slice a1 n1 k1, .slice a2 n2 k2, .slice a3 n3 k3] ∧ XO W5.heap.size w' (.slice a1 n1 k1) (.slice a2 n2 k2) (.slice a3 n3 k3)) (fun w1 hS1 hJ1 => ?_) ?_
     · obtain ⟨hq1, hk⟩ := hJ1.bx q rfl
       obtain ⟨g0, g1, g2, f1, f2⟩ := hk.threeE
       have f0 := hk.frozen 0
       have hst := st6 hS1.1 hS1.2 hp5 hq1 hk hJ1.p6
       exact Eff.skip (w' := ((w1.setCell ⟨q, 0, none⟩ (.slice a1 n1 k1)).setCell ⟨q, 1, none⟩ (.slice a2 n2 k2)).setCell ⟨q, 2, none⟩ (.slice a3 n3 k3)) (by go_simp) ⟨hst.1, rfl, hst.2⟩
     rintro _ rfl
     rw [show List.erase [11, 12] 11 = [12] from rfl]; simp only [Act.put]
     refine TxtT.pure 12 (by rfl) (by rw [gA]; rfl) (by rfl) (by as_aux_lemma => kernel_rfl) (by rfl) ?_; apply Exists.intro; refine ⟨fun w1 hS1 => ?_, ?_⟩; (focus (skip; go_simp; with_reducible rfl))
     rw [show List.erase [12] 12 = [] from rfl]; simp only [Act.put, pA, pB, pC]
     refine ⟨rfl, fun w1 hS1 hJ1 => ?_⟩
     go_wp2_with fail
     go_meet
     exact ⟨q, _, _, _, rfl, hS1.1, hS1.2, hJ1.1, hJ1.2⟩
  obtain ⟨gx, v1, v2, v3, rfl, hs7, hg6, kx, hxo⟩ := hcut
  obtain ⟨W7, hW7⟩ : ∃ W7, W7 = wc := ⟨_, rfl⟩
  subst hW7
  obtain ⟨A1, s1, c1, B1, C, d1, D1, O, e1, X, rfl, rfl, rfl, hz⟩ := hxo.zx
  have HZ := Lib.hid hz
  have hxl := hz.rx.1
  have hCl := hz.lc
  have hOl := hz.lo
  have hp7 := hs7.lt
  have kg7 := kg5.grown hg6 (fun e => by injection e with e; omega)
  have hgx7 : p ≠ gx := fun e => by
    subst e
    exact src_ne hs7 kx
  clear hz hxo hs5
  go_upto_region 7 with fail
  go_cut [14] (fun v wx => ∃ q v1 v2, v = .pointer (some ⟨q, 0, none⟩) ∧ Below W7.heap.size W7 wx ∧ Blk wx q 28 #[.slice A1 s1.length c1, v1, v2] ∧ OwnP wx W7.heap.size v1 C ∧ OwnTS wx W7.heap.size v2 X ∧ W7.heap.size ≤ q)
  case first => as_aux_lemma =>
    refine wp_region_tree [2, 5, 6, 9, 11, 12] (fun w' => Below W7.heap.size W7 w') (fun w' => J7 W7.heap.size none none [] none [] w') 13 [0, 1, 2, 3, 4, 5, 6, 7, 8, 9, 10, 11, 12] (by rfl) (by decide) (by kernel_rfl) (by kernel_rfl) (Below.refl _ _).drew ((J7.start W7).low (Below.refl _ _).drew) ?_
    refine TxtT.pure 0 (by rfl) (by rw [gA]; rfl) (by rfl) (by as_aux_lemma => kernel_rfl) (by rfl) ?_; apply Exists.intro; refine ⟨fun w1 hS1 => ?_, ?_⟩; (focus (skip; go_simp; with_reducible rfl))
    rw [show List.erase [0, 1, 2, 3, 4, 5, 6, 7, 8, 9, 10, 11, 12] 0 = [1, 2, 3, 4, 5, 6, 7, 8, 9, 10, 11, 12] from rfl]; simp only [Act.put, pA, pB, pC]
    refine TxtT.pure 1 (by rfl) (by rw [gA]; rfl) (by rfl) (by as_aux_lemma => kernel_rfl) (by rfl) ?_; apply Exists.intro; refine ⟨fun w1 hS1 => ?_, ?_⟩; (focus ((obtain ⟨g0, g1, g2', _, _⟩ := (kx.below hS1 kx.lt).threeE); go_simp; with_reducible rfl))
    rw [show List.erase [1, 2, 3, 4, 5, 6, 7, 8, 9, 10, 11, 12] 1 = [2, 3, 4, 5, 6, 7, 8, 9, 10, 11, 12] from rfl]; simp only [Act.put, pA, pB, pC]
    refine TxtT.pure 3 (by rfl) (by rw [gA]; rfl) (by rfl) (by as_aux_lemma => kernel_rfl) (by rfl) ?_; apply Exists.intro; refine ⟨fun w1 hS1 => ?_, ?_⟩; (focus (skip; go_simp; with_reducible rfl))
    rw [show List.erase [2, 3, 4, 5, 6, 7, 8, 9, 10, 11, 12] 3 = [2, 4, 5, 6, 7, 8, 9, 10, 11, 12] from rfl]; simp only [Act.put, pA, pB, pC]
    refine TxtT.pure 4 (by rfl) (by rw [gA]; rfl) (by rfl) (by as_aux_lemma => kernel_rfl) (by rfl) ?_; apply Exists.intro; refine ⟨fun w1 hS1 => ?_, ?_⟩; (focus ((obtain ⟨g0, g1, g2', _, _⟩ := (kx.below hS1 kx.lt).threeE); go_simp; with_reducible rfl))
    rw [show List.erase [2, 4, 5, 6, 7, 8, 9, 10, 11, 12] 4 = [2, 5, 6, 7, 8, 9, 10, 11, 12] from rfl]; simp only [Act.put, pA, pB, pC]
    refine TxtT.pure 7 (by rfl) (by rw [gA]; rfl) (by rfl) (by as_aux_lemma => kernel_rfl) (by rfl) ?_; apply Exists.intro; refine ⟨fun w1 hS1 => ?_, ?_⟩; (focus (skip; go_simp; with_reducible rfl))
    rw [show List.erase [2, 5, 6, 7, 8, 9, 10, 11, 12] 7 = [2, 5, 6, 8, 9, 10, 11, 12] from rfl]; simp only [Act.put, pA, pB, pC]
    refine TxtT.pure 8 (by rfl) (by rw [gA]; rfl) (by rfl) (by as_aux_lemma => kernel_rfl) (by rfl) ?_; apply Exists.intro; refine ⟨fun w1 hS1 => ?_, ?_⟩; (focus ((obtain ⟨g0, g1, g2', _, _⟩ := (kx.below hS1 kx.lt).threeE); go_simp; with_reducible rfl))
    rw [show List.erase [2, 5, 6, 8, 9, 10, 11, 12] 8 = [2, 5, 6, 9, 10, 11, 12] from rfl]; simp only [Act.put, pA, pB, pC]
    refine TxtT.three 2 6 11 (by as_aux_lemma => kernel_rfl) (by rw [gA]; rfl) (by rw [gA]; rfl) (by rw [gA]; rfl) (by rfl) (by rfl) (by rfl) (by rfl) (by rfl) (by rfl) (fun v => ∃ g, v = Value.slice (some ⟨g, 0, none⟩) 0 0) (fun v w' => ∃ g2, v = Value.slice (some ⟨g2, 0, none⟩) 0 0 ∧ J7 W7.heap.size none (some (.slice (some ⟨g2, 0, none⟩) 0 0)) [] none [] w') (fun v => ∃ g, v = Value.slice (some ⟨g, 0, none⟩) 0 0) (fun v w' => ∃ g6, v = Value.slice (some ⟨g6, 0, none⟩) 0 0 ∧ J7 W7.heap.size none none [] (some (.slice (some ⟨g6, 0, none⟩) 0 0)) [] w') (fun v => ∃ q, v = Value.pointer (some ⟨q, 0, none⟩)) (fun v w' => ∃ q, v = Value.pointer (some ⟨q, 0, none⟩) ∧ J7 W7.heap.size (some q) none [] none [] w') (fun w1 hS1 hJ1 => ?_) (fun w1 hS1 hJ1 => ?_) (fun w1 hS1 hJ1 => ?_) ?_ ?_ ?_
    · exact Eff.value (w' := w1.alloc (.cells #[] 42)) (v := .slice (some ⟨w1.heap.size, 0, none⟩) 0 0) (by go_simp) ⟨hS1.trans ((newB _ _).mono hS1.size), ⟨_, rfl⟩, _, rfl, hJ1.emp1⟩
    · exact Eff.value (w' := w1.alloc (.cells #[] 22)) (v := .slice (some ⟨w1.heap.size, 0, none⟩) 0 0) (by go_simp) ⟨hS1.trans ((newB _ _).mono hS1.size), ⟨_, rfl⟩, _, rfl, hJ1.emp2⟩
    · exact Eff.value (w' := w1.alloc (.cells #[.slice none 0 0, .slice none 0 0, .slice none 0 0] 28)) (v := .pointer (some ⟨w1.heap.size, 0, none⟩)) (by go_simp) ⟨hS1.trans ((newB _ _).mono hS1.size), ⟨_, rfl⟩, _, rfl, hJ1.box⟩
    · as_aux_lemma =>
     rintro _ ⟨g2, rfl⟩
     rw [show List.erase [2, 5, 6, 9, 10, 11, 12] 2 = [5, 6, 9, 10, 11, 12] from rfl]; simp only [Act.put, pA, pB, pC]
     refine wkG (F := fun g2 w' => J7 W7.heap.size none (some (.slice (some ⟨g2, 0, none⟩) 0 0)) [] none [] w') ?_
     refine TxtT.three 5 6 11 (by as_aux_lemma => kernel_rfl) (by rw [gA]; rfl) (by rw [gA]; rfl) (by rw [gA]; rfl) (by rfl) (by rfl) (by rfl) (by rfl) (by rfl) (by rfl) (fun v => ∃ A n c, v = Value.slice A n c) (fun v w' => ∃ A5 n5 c5, v = Value.slice A5 n5 c5 ∧ J7 W7.heap.size none (some (.slice A5 n5 c5)) C none [] w') (fun v => ∃ g, v = Value.slice (some ⟨g, 0, none⟩) 0 0) (fun v w' => ∃ g6, v = Value.slice (some ⟨g6, 0, none⟩) 0 0 ∧ J7 W7.heap.size none (some (.slice (some ⟨g2, 0, none⟩) 0 0)) [] (some (.slice (some ⟨g6, 0, none⟩) 0 0)) [] w') (fun v => ∃ q, v = Value.pointer (some ⟨q, 0, none⟩)) (fun v w' => ∃ q, v = Value.pointer (some ⟨q, 0, none⟩) ∧ J7 W7.heap.size (some q) (some (.slice (some ⟨g2, 0, none⟩) 0 0)) [] none [] w') (fun w1 hS1 hJ1 => ?_) (fun w1 hS1 hJ1 => ?_) (fun w1 hS1 hJ1 => ?_) ?_ ?_ ?_
     · have hz1 := HZ.out.below hS1
       refine eff_appPr (.tmp 49) (.tmp 51) (by rfl) w1 W7.heap.size (.slice (some ⟨g2, 0, none⟩) 0 0) [] B1 C C.length d1 (hJ1.p _ rfl) hz1.rc rfl hz1.nb (by rfl) (by rfl) (by have := hz1.lc; simp; omega) hJ1.sz fun v' w' hown' hb hg => ?_
       rw [List.nil_append] at hown'
       obtain ⟨A5, c5, rfl⟩ := hown'.shape
       exact ⟨hS1.trans hb, ⟨A5, _, c5, rfl⟩, A5, _, c5, rfl, hJ1.app1 hown' hg⟩
     · exact Eff.value (w' := w1.alloc (.cells #[] 22)) (v := .slice (some ⟨w1.heap.size, 0, none⟩) 0 0) (by go_simp) ⟨hS1.trans ((newB _ _).mono hS1.size), ⟨_, rfl⟩, _, rfl, hJ1.emp2⟩
     · exact Eff.value (w' := w1.alloc (.cells #[.slice none 0 0, .slice none 0 0, .slice none 0 0] 28)) (v := .pointer (some ⟨w1.heap.size, 0, none⟩)) (by go_simp) ⟨hS1.trans ((newB _ _).mono hS1.size), ⟨_, rfl⟩, _, rfl, hJ1.box⟩
     · as_aux_lemma =>
      rintro _ ⟨A5, n5, c5, rfl⟩
      rw [show List.erase [5, 6, 9, 10, 11, 12] 5 = [6, 9, 10, 11, 12] from rfl]; simp only [Act.put, pA, pB, pC]
      refine wkS (F := fun A5 n5 c5 w' => J7 W7.heap.size none (some (.slice A5 n5 c5)) C none [] w') ?_
      refine TxtT.two 6 11 (by as_aux_lemma => kernel_rfl) (by rw [gA]; rfl) (by rw [gA]; rfl) (by rfl) (by rfl) (by rfl) (by rfl) (fun v => ∃ g, v = Value.slice (some ⟨g, 0, none⟩) 0 0) (fun v w' => ∃ g6, v = Value.slice (some ⟨g6, 0, none⟩) 0 0 ∧ J7 W7.heap.size none (some (.slice A5 n5 c5)) C (some (.slice (some ⟨g6, 0, none⟩) 0 0)) [] w') (fun v => ∃ q, v = Value.pointer (some ⟨q, 0, none⟩)) (fun v w' => ∃ q, v = Value.pointer (some ⟨q, 0, none⟩) ∧ J7 W7.heap.size (some q) (some (.slice A5 n5 c5)) C none [] w') (fun w1 hS1 hJ1 => ?_) (fun w1 hS1 hJ1 => ?_) ?_ ?_
      · exact Eff.value (w' := w1.alloc (.cells #[] 22)) (v := .slice (some ⟨w1.heap.size, 0, none⟩) 0 0) (by go_simp) ⟨hS1.trans ((newB _ _).mono hS1.size), ⟨_, rfl⟩, _, rfl, hJ1.emp2⟩
      · exact Eff.value (w' := w1.alloc (.cells #[.slice none 0 0, .slice none 0 0, .slice none 0 0] 28)) (v := .pointer (some ⟨w1.heap.size, 0, none⟩)) (by go_simp) ⟨hS1.trans ((newB _ _).mono hS1.size), ⟨_, rfl⟩, _, rfl, hJ1.box⟩
      · as_aux_lemma =>
       rintro _ ⟨g6, rfl⟩
       rw [show List.erase [6, 9, 10, 11, 12] 6 = [9, 10, 11, 12] from rfl]; simp only [Act.put, pA, pB, pC]
       refine wkG (F := fun g6 w' => J7 W7.heap.size none (some (.slice A5 n5 c5)) C (some (.slice (some ⟨g6, 0, none⟩) 0 0)) [] w') ?_
       refine TxtT.two 9 11 (by as_aux_lemma => kernel_rfl) (by rw [gA]; rfl) (by rw [gA]; rfl) (by rfl) (by rfl) (by rfl) (by rfl) (fun v => ∃ A n c, v = Value.slice A n c) (fun v w' => ∃ A9 n9 c9, v = Value.slice A9 n9 c9 ∧ J7 W7.heap.size none (some (.slice A5 n5 c5)) C (some (.slice A9 n9 c9)) X w') (fun v => ∃ q, v = Value.pointer (some ⟨q, 0, none⟩)) (fun v w' => ∃ q, v = Value.pointer (some ⟨q, 0, none⟩) ∧ J7 W7.heap.size (some q) (some (.slice A5 n5 c5)) C (some (.slice (some ⟨g6, 0, none⟩) 0 0)) [] w') (fun w1 hS1 hJ1 => ?_) (fun w1 hS1 hJ1 => ?_) ?_ ?_
       · have hz1 := HZ.out.below hS1
         refine eff_appTs (.tmp 53) (.tmp 55) (by rfl) w1 W7.heap.size (.slice (some ⟨g6, 0, none⟩) 0 0) [] D1 X O.length e1 (hJ1.t _ rfl) hz1.rx.1.symm hz1.rdd hz1.rx.lits hz1.nd (by rfl) (by rfl) (by have := hz1.lo; have := hz1.rx.1; simp; omega) hJ1.sz fun v' w' hown' hb hg => ?_
         rw [List.nil_append] at hown'
         obtain ⟨A9, n9, c9, rfl, hn9⟩ := hown'.shape
         exact ⟨hS1.trans hb, ⟨A9, _, c9, rfl⟩, A9, _, c9, rfl, hJ1.app2 hown' hg⟩
       · exact Eff.value (w' := w1.alloc (.cells #[.slice none 0 0, .slice none 0 0, .slice none 0 0] 28)) (v := .pointer (some ⟨w1.heap.size, 0, none⟩)) (by go_simp) ⟨hS1.trans ((newB _ _).mono hS1.size), ⟨_, rfl⟩, _, rfl, hJ1.box⟩
       · as_aux_lemma =>
        rintro _ ⟨A9, n9, c9, rfl⟩
        rw [show List.erase [9, 10, 11, 12] 9 = [10, 11, 12] from rfl]; simp only [Act.put, pA, pB, pC]
        refine wkS (F := fun A9 n9 c9 w' => J7 W7.heap.size none (some (.slice A5 n5 c5)) C (some (.slice A9 n9 c9)) X w') ?_
        refine TxtT.pure 10 (by rfl) (by rw [gA]; rfl) (by rfl) (by as_aux_lemma => kernel_rfl) (by rfl) ?_; apply Exists.intro; refine ⟨fun w1 hS1 => ?_, ?_⟩; (focus (skip; go_simp; with_reducible rfl))
        rw [show List.erase [10, 11, 12] 10 = [11, 12] from rfl]; simp only [Act.put, pA, pB, pC]
        refine TxtT.one 11 (by as_aux_lemma => kernel_rfl) (by rw [gA]; rfl) (by rfl) (by rfl) (fun v => ∃ q, v = Value.pointer (some ⟨q, 0, none⟩)) (fun v w' => ∃ q, v = Value.pointer (some ⟨q, 0, none⟩) ∧ J7 W7.heap.size (some q) (some (.slice A5 n5 c5)) C (some (.slice A9 n9 c9)) X w') (fun w1 hS1 hJ1 => ?_) ?_
        · exact Eff.value (w' := w1.alloc (.cells #[.slice none 0 0, .slice none 0 0, .slice none 0 0] 28)) (v := .pointer (some ⟨w1.heap.size, 0, none⟩)) (by go_simp) ⟨hS1.trans ((newB _ _).mono hS1.size), ⟨_, rfl⟩, _, rfl, hJ1.box⟩
        rintro _ ⟨q, rfl⟩
        rw [show List.erase [11, 12] 11 = [12] from rfl]; simp only [Act.put, pA, pB, pC]
        refine wkP (F := fun q w' => J7 W7.heap.size (some q) (some (.slice A5 n5 c5)) C (some (.slice A9 n9 c9)) X w') ?_
        refine TxtT.one 12 (by as_aux_lemma => kernel_rfl) (by rw [gA]; rfl) (by rfl) (by rfl) (fun v => v = undef) (fun _ w' => Blk w' q 28 #[.slice A1 s1.length c1, .slice A5 n5 c5, .slice A9 n9 c9] ∧ OwnP w' W7.heap.size (.slice A5 n5 c5) C ∧ OwnTS w' W7.heap.size (.slice A9 n9 c9) X ∧ W7.heap.size ≤ q) (fun w1 hS1 hJ1 => ?_) ?_
        · obtain ⟨hq1, hk⟩ := hJ1.bx q rfl
          obtain ⟨g0, g1, g2', f1, f2⟩ := hk.threeE
          have f0 := hk.frozen 0
          have hst := hJ1.fin hS1 (.slice A1 s1.length c1)
          exact Eff.skip (w' := ((w1.setCell ⟨q, 0, none⟩ (.slice A1 s1.length c1)).setCell ⟨q, 1, none⟩ (.slice A5 n5 c5)).setCell ⟨q, 2, none⟩ (.slice A9 n9 c9)) (by go_simp) ⟨hst.1, rfl, hst.2⟩
        rintro _ rfl
        rw [show List.erase [12] 12 = [] from rfl]; simp only [Act.put]
        refine ⟨rfl, fun w1 hS1 hJ1 => ?_⟩
        go_wp2_with fail
        go_meet
        exact ⟨q, _, _, rfl, hS1, hJ1.1, hJ1.2.1, hJ1.2.2.1, hJ1.2.2.2⟩
       · as_aux_lemma =>
        rintro _ ⟨q, rfl⟩
        rw [show List.erase [9, 10, 11, 12] 11 = [9, 10, 12] from rfl]; simp only [Act.put, pA, pB, pC]
        refine wkP (F := fun q w' => J7 W7.heap.size (some q) (some (.slice A5 n5 c5)) C (some (.slice (some ⟨g6, 0, none⟩) 0 0)) [] w') ?_
        refine TxtT.one 9 (by as_aux_lemma => kernel_rfl) (by rw [gA]; rfl) (by rfl) (by rfl) (fun v => ∃ A n c, v = Value.slice A n c) (fun v w' => ∃ A9 n9 c9, v = Value.slice A9 n9 c9 ∧ J7 W7.heap.size (some q) (some (.slice A5 n5 c5)) C (some (.slice A9 n9 c9)) X w') (fun w1 hS1 hJ1 => ?_) ?_
        · have hz1 := HZ.out.below hS1
          refine eff_appTs (.tmp 53) (.tmp 55) (by rfl) w1 W7.heap.size (.slice (some ⟨g6, 0, none⟩) 0 0) [] D1 X O.length e1 (hJ1.t _ rfl) hz1.rx.1.symm hz1.rdd hz1.rx.lits hz1.nd (by rfl) (by rfl) (by have := hz1.lo; have := hz1.rx.1; simp; omega) hJ1.sz fun v' w' hown' hb hg => ?_
          rw [List.nil_append] at hown'
          obtain ⟨A9, n9, c9, rfl, hn9⟩ := hown'.shape
          exact ⟨hS1.trans hb, ⟨A9, _, c9, rfl⟩, A9, _, c9, rfl, hJ1.app2 hown' hg⟩
        rintro _ ⟨A9, n9, c9, rfl⟩
        rw [show List.erase [9, 10, 12] 9 = [10, 12] from rfl]; simp only [Act.put, pA, pB, pC]
        refine wkS (F := fun A9 n9 c9 w' => J7 W7.heap.size (some q) (some (.slice A5 n5 c5)) C (some (.slice A9 n9 c9)) X w') ?_
        refine TxtT.pure 10 (by rfl) (by rw [gA]; rfl) (by rfl) (by as_aux_lemma => kernel_rfl) (by rfl) ?_; apply Exists.intro; refine ⟨fun w1 hS1 => ?_, ?_⟩; (focus (skip; go_simp; with_reducible rfl))
        rw [show List.erase [10, 12] 10 = [12] from rfl]; simp only [Act.put, pA, pB, pC]
        refine TxtT.one 12 (by as_aux_lemma => kernel_rfl) (by rw [gA]; rfl) (by rfl) (by rfl) (fun v => v = undef) (fun _ w' => Blk w' q 28 #[.slice A1 s1.length c1, .slice A5 n5 c5, .slice A9 n9 c9] ∧ OwnP w' W7.heap.size (.slice A5 n5 c5) C ∧ OwnTS w' W7.heap.size (.slice A9 n9 c9) X ∧ W7.heap.size ≤ q) (fun w1 hS1 hJ1 => ?_) ?_
        · obtain ⟨hq1, hk⟩ := hJ1.bx q rfl
          obtain ⟨g0, g1, g2', f1, f2⟩ := hk.threeE
          have f0 := hk.frozen 0
          have hst := hJ1.fin hS1 (.slice A1 s1.length c1)
          exact Eff.skip (w' := ((w1.setCell ⟨q, 0, none⟩ (.slice A1 s1.length c1)).setCell ⟨q, 1, none⟩ (.slice A5 n5 c5)).setCell ⟨q, 2, none⟩ (.slice A9 n9 c9)) (by go_simp) ⟨hst.1, rfl, hst.2⟩
        rintro _ rfl
        rw [show List.erase [12] 12 = [] from rfl]; simp only [Act.put]
        refine ⟨rfl, fun w1 hS1 hJ1 => ?_⟩
        go_wp2_with fail
        go_meet
        exact ⟨q, _, _, rfl, hS1, hJ1.1, hJ1.2.1, hJ1.2.2.1, hJ1.2.2.2⟩
      · as_aux_lemma =>
       rintro _ ⟨q, rfl⟩
       rw [show List.erase [6, 9, 10, 11, 12] 11 = [6, 9, 10, 12] from rfl]; simp only [Act.put, pA, pB, pC]
       refine wkP (F := fun q w' => J7 W7.heap.size (some q) (some (.slice A5 n5 c5)) C none [] w') ?_
       refine TxtT.one 6 (by as_aux_lemma => kernel_rfl) (by rw [gA]; rfl) (by rfl) (by rfl) (fun v => ∃ g, v = Value.slice (some ⟨g, 0, none⟩) 0 0) (fun v w' => ∃ g6, v = Value.slice (some ⟨g6, 0, none⟩) 0 0 ∧ J7 W7.heap.size (some q) (some (.slice A5 n5 c5)) C (some (.slice (some ⟨g6, 0, none⟩) 0 0)) [] w') (fun w1 hS1 hJ1 => ?_) ?_
       · exact Eff.value (w' := w1.alloc (.cells #[] 22)) (v := .slice (some ⟨w1.heap.size, 0, none⟩) 0 0) (by go_simp) ⟨hS1.trans ((newB _ _).mono hS1.size), ⟨_, rfl⟩, _, rfl, hJ1.emp2⟩
       rintro _ ⟨g6, rfl⟩
       rw [show List.erase [6, 9, 10, 12] 6 = [9, 10, 12] from rfl]; simp only [Act.put, pA, pB, pC]
       refine wkG (F := fun g6 w' => J7 W7.heap.size (some q) (some (.slice A5 n5 c5)) C (some (.slice (some ⟨g6, 0, none⟩) 0 0)) [] w') ?_
       refine TxtT.one 9 (by as_aux_lemma => kernel_rfl) (by rw [gA]; rfl) (by rfl) (by rfl) (fun v => ∃ A n c, v = Value.slice A n c) (fun v w' => ∃ A9 n9 c9, v = Value.slice A9 n9 c9 ∧ J7 W7.heap.size (some q) (some (.slice A5 n5 c5)) C (some (.slice A9 n9 c9)) X w') (fun w1 hS1 hJ1 => ?_) ?_
       · have hz1 := HZ.out.below hS1
         refine eff_appTs (.tmp 53) (.tmp 55) (by rfl) w1 W7.heap.size (.slice (some ⟨g6, 0, none⟩) 0 0) [] D1 X O.length e1 (hJ1.t _ rfl) hz1.rx.1.symm hz1.rdd hz1.rx.lits hz1.nd (by rfl) (by rfl) (by have := hz1.lo; have := hz1.rx.1; simp; omega) hJ1.sz fun v' w' hown' hb hg => ?_
         rw [List.nil_append] at hown'
         obtain ⟨A9, n9, c9, rfl, hn9⟩ := hown'.shape
         exact ⟨hS1.trans hb, ⟨A9, _, c9, rfl⟩, A9, _, c9, rfl, hJ1.app2 hown' hg⟩
       rintro _ ⟨A9, n9, c9, rfl⟩
       rw [show List.erase [9, 10, 12] 9 = [10, 12] from rfl]; simp only [Act.put, pA, pB, pC]
       refine wkS (F := fun A9 n9 c9 w' => J7 W7.heap.size (some q) (some (.slice A5 n5 c5)) C (some (.slice A9 n9 c9)) X w') ?_
       refine TxtT.pure 10 (by rfl) (by rw [gA]; rfl) (by rfl) (by as_aux_lemma => kernel_rfl) (by rfl) ?_; apply Exists.intro; refine ⟨fun w1 hS1 => ?_, ?_⟩; (focus (skip; go_simp; with_reducible rfl))
       rw [show List.erase [10, 12] 10 = [12] from rfl]; simp only [Act.put, pA, pB, pC]
       refine TxtT.one 12 (by as_aux_lemma => kernel_rfl) (by rw [gA]; rfl) (by rfl) (by rfl) (fun v => v = undef) (fun _ w' => Blk w' q 28 #[.slice A1 s1.length c1, .slice A5 n5 c5, .slice A9 n9 c9] ∧ OwnP w' W7.heap.size (.slice A5 n5 c5) C ∧ OwnTS w' W7.heap.size (.slice A9 n9 c9) X ∧ W7.heap.size ≤ q) (fun w1 hS1 hJ1 => ?_) ?_
       · obtain ⟨hq1, hk⟩ := hJ1.bx q rfl
         obtain ⟨g0, g1, g2', f1, f2⟩ := hk.threeE
         have f0 := hk.frozen 0
         have hst := hJ1.fin hS1 (.slice A1 s1.length c1)
         exact Eff.skip (w' := ((w1.setCell ⟨q, 0, none⟩ (.slice A1 s1.length c1)).setCell ⟨q, 1, none⟩ (.slice A5 n5 c5)).setCell ⟨q, 2, none⟩ (.slice A9 n9 c9)) (by go_simp) ⟨hst.1, rfl, hst.2⟩
       rintro _ rfl
       rw [show List.erase [12] 12 = [] from rfl]; simp only [Act.put]
       refine ⟨rfl, fun w1 hS1 hJ1 => ?_⟩
       go_wp2_with fail
       go_meet
       exact ⟨q, _, _, rfl, hS1, hJ1.1, hJ1.2.1, hJ1.2.2.1, hJ1.2.2.2⟩
     · as_aux_lemma =>
      rintro _ ⟨g6, rfl⟩
      rw [show List.erase [5, 6, 9, 10, 11, 12] 6 = [5, 9, 10, 11, 12] from rfl]; simp only [Act.put, pA, pB, pC]
      refine wkG (F := fun g6 w' => J7 W7.heap.size none (some (.slice (some ⟨g2, 0, none⟩) 0 0)) [] (some (.slice (some ⟨g6, 0, none⟩) 0 0)) [] w') ?_
      refine TxtT.two 5 11 (by as_aux_lemma => kernel_rfl) (by rw [gA]; rfl) (by rw [gA]; rfl) (by rfl) (by rfl) (by rfl) (by rfl) (fun v => ∃ A n c, v = Value.slice A n c) (fun v w' => ∃ A5 n5 c5, v = Value.slice A5 n5 c5 ∧ J7 W7.heap.size none (some (.slice A5 n5 c5)) C (some (.slice (some ⟨g6, 0, none⟩) 0 0)) [] w') (fun v => ∃ q, v = Value.pointer (some ⟨q, 0, none⟩)) (fun v w' => ∃ q, v = Value.pointer (some ⟨q, 0, none⟩) ∧ J7 W7.heap.size (some q) (some (.slice (some ⟨g2, 0, none⟩) 0 0)) [] (some (.slice (some ⟨g6, 0, none⟩) 0 0)) [] w') (fun w1 hS1 hJ1 => ?_) (fun w1 hS1 hJ1 => ?_) ?_ ?_
      · have hz1 := HZ.out.below hS1
        refine eff_appPr (.tmp 49) (.tmp 51) (by rfl) w1 W7.heap.size (.slice (some ⟨g2, 0, none⟩) 0 0) [] B1 C C.length d1 (hJ1.p _ rfl) hz1.rc rfl hz1.nb (by rfl) (by rfl) (by have := hz1.lc; simp; omega) hJ1.sz fun v' w' hown' hb hg => ?_
        rw [List.nil_append] at hown'
        obtain ⟨A5, c5, rfl⟩ := hown'.shape
        exact ⟨hS1.trans hb, ⟨A5, _, c5, rfl⟩, A5, _, c5, rfl, hJ1.app1 hown' hg⟩
      · exact Eff.value (w' := w1.alloc (.cells #[.slice none 0 0, .slice none 0 0, .slice none 0 0] 28)) (v := .pointer (some ⟨w1.heap.size, 0, none⟩)) (by go_simp) ⟨hS1.trans ((newB _ _).mono hS1.size), ⟨_, rfl⟩, _, rfl, hJ1.box⟩
      · as_aux_lemma =>
       rintro _ ⟨A5, n5, c5, rfl⟩
       rw [show List.erase [5, 9, 10, 11, 12] 5 = [9, 10, 11, 12] from rfl]; simp only [Act.put, pA, pB, pC]
       refine wkS (F := fun A5 n5 c5 w' => J7 W7.heap.size none (some (.slice A5 n5 c5)) C (some (.slice (some ⟨g6, 0, none⟩) 0 0)) [] w') ?_
       refine TxtT.two 9 11 (by as_aux_lemma => kernel_rfl) (by rw [gA]; rfl) (by rw [gA]; rfl) (by rfl) (by rfl) (by rfl) (by rfl) (fun v => ∃ A n c, v = Value.slice A n c) (fun v w' => ∃ A9 n9 c9, v = Value.slice A9 n9 c9 ∧ J7 W7.heap.size none (some (.slice A5 n5 c5)) C (some (.slice A9 n9 c9)) X w') (fun v => ∃ q, v = Value.pointer (some ⟨q, 0, none⟩)) (fun v w' => ∃ q, v = Value.pointer (some ⟨q, 0, none⟩) ∧ J7 W7.heap.size (some q) (some (.slice A5 n5 c5)) C (some (.slice (some ⟨g6, 0, none⟩) 0 0)) [] w') (fun w1 hS1 hJ1 => ?_) (fun w1 hS1 hJ1 => ?_) ?_ ?_
       · have hz1 := HZ.out.below hS1
         refine eff_appTs (.tmp 53) (.tmp 55) (by rfl) w1 W7.heap.size (.slice (some ⟨g6, 0, none⟩) 0 0) [] D1 X O.length e1 (hJ1.t _ rfl) hz1.rx.1.symm hz1.rdd hz1.rx.lits hz1.nd (by rfl) (by rfl) (by have := hz1.lo; have := hz1.rx.1; simp; omega) hJ1.sz fun v' w' hown' hb hg => ?_
         rw [List.nil_append] at hown'
         obtain ⟨A9, n9, c9, rfl, hn9⟩ := hown'.shape
         exact ⟨hS1.trans hb, ⟨A9, _, c9, rfl⟩, A9, _, c9, rfl, hJ1.app2 hown' hg⟩
       · exact Eff.value (w' := w1.alloc (.cells #[.slice none 0 0, .slice none 0 0, .slice none 0 0] 28)) (v := .pointer (some ⟨w1.heap.size, 0, none⟩)) (by go_simp) ⟨hS1.trans ((newB _ _).mono hS1.size), ⟨_, rfl⟩, _, rfl, hJ1.box⟩
       · as_aux_lemma =>
        rintro _ ⟨A9, n9, c9, rfl⟩
        rw [show List.erase [9, 10, 11, 12] 9 = [10, 11, 12] from rfl]; simp only [Act.put, pA, pB, pC]
        refine wkS (F := fun A9 n9 c9 w' => J7 W7.heap.size none (some (.slice A5 n5 c5)) C (some (.slice A9 n9 c9)) X w') ?_
        refine TxtT.pure 10 (by rfl) (by rw [gA]; rfl) (by rfl) (by as_aux_lemma => kernel_rfl) (by rfl) ?_; apply Exists.intro; refine ⟨fun w1 hS1 => ?_, ?_⟩; (focus (skip; go_simp; with_reducible rfl))
        rw [show List.erase [10, 11, 12] 10 = [11, 12] from rfl]; simp only [Act.put, pA, pB, pC]
        refine TxtT.one 11 (by as_aux_lemma => kernel_rfl) (by rw [gA]; rfl) (by rfl) (by rfl) (fun v => ∃ q, v = Value.pointer (some ⟨q, 0, none⟩)) (fun v w' => ∃ q, v = Value.pointer (some ⟨q, 0, none⟩) ∧ J7 W7.heap.size (some q) (some (.slice A5 n5 c5)) C (some (.slice A9 n9 c9)) X w') (fun w1 hS1 hJ1 => ?_) ?_
        · exact Eff.value (w' := w1.alloc (.cells #[.slice none 0 0, .slice none 0 0, .slice none 0 0] 28)) (v := .pointer (some ⟨w1.heap.size, 0, none⟩)) (by go_simp) ⟨hS1.trans ((newB _ _).mono hS1.size), ⟨_, rfl⟩, _, rfl, hJ1.box⟩
        rintro _ ⟨q, rfl⟩
        rw [show List.erase [11, 12] 11 = [12] from rfl]; simp only [Act.put, pA, pB, pC]
        refine wkP (F := fun q w' => J7 W7.heap.size (some q) (some (.slice A5 n5 c5)) C (some (.slice A9 n9 c9)) X w') ?_
        refine TxtT.one 12 (by as_aux_lemma => kernel_rfl) (by rw [gA]; rfl) (by rfl) (by rfl) (fun v => v = undef) (fun _ w' => Blk w' q 28 #[.slice A1 s1.length c1, .slice A5 n5 c5, .slice A9 n9 c9] ∧ OwnP w' W7.heap.size (.slice A5 n5 c5) C ∧ OwnTS w' W7.heap.size (.slice A9 n9 c9) X ∧ W7.heap.size ≤ q) (fun w1 hS1 hJ1 => ?_) ?_
        · obtain ⟨hq1, hk⟩ := hJ1.bx q rfl
          obtain ⟨g0, g1, g2', f1, f2⟩ := hk.threeE
          have f0 := hk.frozen 0
          have hst := hJ1.fin hS1 (.slice A1 s1.length c1)
          exact Eff.skip (w' := ((w1.setCell ⟨q, 0, none⟩ (.slice A1 s1.length c1)).setCell ⟨q, 1, none⟩ (.slice A5 n5 c5)).setCell ⟨q, 2, none⟩ (.slice A9 n9 c9)) (by go_simp) ⟨hst.1, rfl, hst.2⟩
        rintro _ rfl
        rw [show List.erase [12] 12 = [] from rfl]; simp only [Act.put]
        refine ⟨rfl, fun w1 hS1 hJ1 => ?_⟩
        go_wp2_with fail
        go_meet
        exact ⟨q, _, _, rfl, hS1, hJ1.1, hJ1.2.1, hJ1.2.2.1, hJ1.2.2.2⟩
       · as_aux_lemma =>
        rintro _ ⟨q, rfl⟩
        rw [show List.erase [9, 10, 11, 12] 11 = [9, 10, 12] from rfl]; simp only [Act.put, pA, pB, pC]
        refine wkP (F := fun q w' => J7 W7.heap.size (some q) (some (.slice A5 n5 c5)) C (some (.slice (some ⟨g6, 0, none⟩) 0 0)) [] w') ?_
        refine TxtT.one 9 (by as_aux_lemma => kernel_rfl) (by rw [gA]; rfl) (by rfl) (by rfl) (fun v => ∃ A n c, v = Value.slice A n c) (fun v w' => ∃ A9 n9 c9, v = Value.slice A9 n9 c9 ∧ J7 W7.heap.size (some q) (some (.slice A5 n5 c5)) C (some (.slice A9 n9 c9)) X w') (fun w1 hS1 hJ1 => ?_) ?_
        · have hz1 := HZ.out.below hS1
          refine eff_appTs (.tmp 53) (.tmp 55) (by rfl) w1 W7.heap.size (.slice (some ⟨g6, 0, none⟩) 0 0) [] D1 X O.length e1 (hJ1.t _ rfl) hz1.rx.1.symm hz1.rdd hz1.rx.lits hz1.nd (by rfl) (by rfl) (by have := hz1.lo; have := hz1.rx.1; simp; omega) hJ1.sz fun v' w' hown' hb hg => ?_
          rw [List.nil_append] at hown'
          obtain ⟨A9, n9, c9, rfl, hn9⟩ := hown'.shape
          exact ⟨hS1.trans hb, ⟨A9, _, c9, rfl⟩, A9, _, c9, rfl, hJ1.app2 hown' hg⟩
        rintro _ ⟨A9, n9, c9, rfl⟩
        rw [show List.erase [9, 10, 12] 9 = [10, 12] from rfl]; simp only [Act.put, pA, pB, pC]
        refine wkS (F := fun A9 n9 c9 w' => J7 W7.heap.size (some q) (some (.slice A5 n5 c5)) C (some (.slice A9 n9 c9)) X w') ?_
        refine TxtT.pure 10 (by rfl) (by rw [gA]; rfl) (by rfl) (by as_aux_lemma => kernel_rfl) (by rfl) ?_; apply Exists.intro; refine ⟨fun w1 hS1 => ?_, ?_⟩; (focus (skip; go_simp; with_reducible rfl))
        rw [show List.erase [10, 12] 10 = [12] from rfl]; simp only [Act.put, pA, pB, pC]
        refine TxtT.one 12 (by as_aux_lemma => kernel_rfl) (by rw [gA]; rfl) (by rfl) (by rfl) (fun v => v = undef) (fun _ w' => Blk w' q 28 #[.slice A1 s1.length c1, .slice A5 n5 c5, .slice A9 n9 c9] ∧ OwnP w' W7.heap.size (.slice A5 n5 c5) C ∧ OwnTS w' W7.heap.size (.slice A9 n9 c9) X ∧ W7.heap.size ≤ q) (fun w1 hS1 hJ1 => ?_) ?_
        · obtain ⟨hq1, hk⟩ := hJ1.bx q rfl
          obtain ⟨g0, g1, g2', f1, f2⟩ := hk.threeE
          have f0 := hk.frozen 0
          have hst := hJ1.fin hS1 (.slice A1 s1.length c1)
          exact Eff.skip (w' := ((w1.setCell ⟨q, 0, none⟩ (.slice A1 s1.length c1)).setCell ⟨q, 1, none⟩ (.slice A5 n5 c5)).setCell ⟨q, 2, none⟩ (.slice A9 n9 c9)) (by go_simp) ⟨hst.1, rfl, hst.2⟩
        rintro _ rfl
        rw [show List.erase [12] 12 = [] from rfl]; simp only [Act.put]
        refine ⟨rfl, fun w1 hS1 hJ1 => ?_⟩
        go_wp2_with fail
        go_meet
        exact ⟨q, _, _, rfl, hS1, hJ1.1, hJ1.2.1, hJ1.2.2.1, hJ1.2.2.2⟩
      · as_aux_lemma =>
       rintro _ ⟨q, rfl⟩
       rw [show List.erase [5, 9, 10, 11, 12] 11 = [5, 9, 10, 12] from rfl]; simp only [Act.put, pA, pB, pC]
       refine wkP (F := fun q w' => J7 W7.heap.size (some q) (some (.slice (some ⟨g2, 0, none⟩) 0 0)) [] (some (.slice (some ⟨g6, 0, none⟩) 0 0)) [] w') ?_
       refine TxtT.one 5 (by as_aux_lemma => kernel_rfl) (by rw [gA]; rfl) (by rfl) (by rfl) (fun v => ∃ A n c, v = Value.slice A n c) (fun v w' => ∃ A5 n5 c5, v = Value.slice A5 n5 c5 ∧ J7 W7.heap.size (some q) (some (.slice A5 n5 c5)) C (some (.slice (some ⟨g6, 0, none⟩) 0 0)) [] w') (fun w1 hS1 hJ1 => ?_) ?_
       · have hz1 := HZ.out.below hS1
         refine eff_appPr (.tmp 49) (.tmp 51) (by rfl) w1 W7.heap.size (.slice (some ⟨g2, 0, none⟩) 0 0) [] B1 C C.length d1 (hJ1.p _ rfl) hz1.rc rfl hz1.nb (by rfl) (by rfl) (by have := hz1.lc; simp; omega) hJ1.sz fun v' w' hown' hb hg => ?_
         rw [List.nil_append] at hown'
         obtain ⟨A5, c5, rfl⟩ := hown'.shape
         exact ⟨hS1.trans hb, ⟨A5, _, c5, rfl⟩, A5, _, c5, rfl, hJ1.app1 hown' hg⟩
       rintro _ ⟨A5, n5, c5, rfl⟩
       rw [show List.erase [5, 9, 10, 12] 5 = [9, 10, 12] from rfl]; simp only [Act.put, pA, pB, pC]
       refine wkS (F := fun A5 n5 c5 w' => J7 W7.heap.size (some q) (some (.slice A5 n5 c5)) C (some (.slice (some ⟨g6, 0, none⟩) 0 0)) [] w') ?_
       refine TxtT.one 9 (by as_aux_lemma => kernel_rfl) (by rw [gA]; rfl) (by rfl) (by rfl) (fun v => ∃ A n c, v = Value.slice A n c) (fun v w' => ∃ A9 n9 c9, v = Value.slice A9 n9 c9 ∧ J7 W7.heap.size (some q) (some (.slice A5 n5 c5)) C (some (.slice A9 n9 c9)) X w') (fun w1 hS1 hJ1 => ?_) ?_
       · have hz1 := HZ.out.below hS1
         refine eff_appTs (.tmp 53) (.tmp 55) (by rfl) w1 W7.heap.size (.slice (some ⟨g6, 0, none⟩) 0 0) [] D1 X O.length e1 (hJ1.t _ rfl) hz1.rx.1.symm hz1.rdd hz1.rx.lits hz1.nd (by rfl) (by rfl) (by have := hz1.lo; have := hz1.rx.1; simp; omega) hJ1.sz fun v' w' hown' hb hg => ?_
         rw [List.nil_append] at hown'
         obtain ⟨A9, n9, c9, rfl, hn9⟩ := hown'.shape
         exact ⟨hS1.trans hb, ⟨A9, _, c9, rfl⟩, A9, _, c9, rfl, hJ1.app2 hown' hg⟩
       rintro _ ⟨A9, n9, c9, rfl⟩
       rw [show List.erase [9, 10, 12] 9 = [10, 12] from rfl]; simp only [Act.put, pA, pB, pC]
       refine wkS (F := fun A9 n9 c9 w' => J7 W7.heap.size (some q) (some (.slice A5 n5 c5)) C (some (.slice A9 n9 c9)) X w') ?_
       refine TxtT.pure 10 (by rfl) (by rw [gA]; rfl) (by rfl) (by as_aux_lemma => kernel_rfl) (by rfl) ?_; apply Exists.intro; refine ⟨fun w1 hS1 => ?_, ?_⟩; (focus (skip; go_simp; with_reducible rfl))
       rw [show List.erase [10, 12] 10 = [12] from rfl]; simp only [Act.put, pA, pB, pC]
       refine TxtT.one 12 (by as_aux_lemma => kernel_rfl) (by rw [gA]; rfl) (by rfl) (by rfl) (fun v => v = undef) (fun _ w' => Blk w' q 28 #[.slice A1 s1.length c1, .slice A5 n5 c5, .slice A9 n9 c9] ∧ OwnP w' W7.heap.size (.slice A5 n5 c5) C ∧ OwnTS w' W7.heap.size (.slice A9 n9 c9) X ∧ W7.heap.size ≤ q) (fun w1 hS1 hJ1 => ?_) ?_
       · obtain ⟨hq1, hk⟩ := hJ1.bx q rfl
         obtain ⟨g0, g1, g2', f1, f2⟩ := hk.threeE
         have f0 := hk.frozen 0
         have hst := hJ1.fin hS1 (.slice A1 s1.length c1)
         exact Eff.skip (w' := ((w1.setCell ⟨q, 0, none⟩ (.slice A1 s1.length c1)).setCell ⟨q, 1, none⟩ (.slice A5 n5 c5)).setCell ⟨q, 2, none⟩ (.slice A9 n9 c9)) (by go_simp) ⟨hst.1, rfl, hst.2⟩
       rintro _ rfl
       rw [show List.erase [12] 12 = [] from rfl]; simp only [Act.put]
       refine ⟨rfl, fun w1 hS1 hJ1 => ?_⟩
       go_wp2_with fail
       go_meet
       exact ⟨q, _, _, rfl, hS1, hJ1.1, hJ1.2.1, hJ1.2.2.1, hJ1.2.2.2⟩
     · as_aux_lemma =>
      rintro _ ⟨q, rfl⟩
      rw [show List.erase [5, 6, 9, 10, 11, 12] 11 = [5, 6, 9, 10, 12] from rfl]; simp only [Act.put, pA, pB, pC]
      refine wkP (F := fun q w' => J7 W7.heap.size (some q) (some (.slice (some ⟨g2, 0, none⟩) 0 0)) [] none [] w') ?_
      refine TxtT.two 5 6 (by as_aux_lemma => kernel_rfl) (by rw [gA]; rfl) (by rw [gA]; rfl) (by rfl) (by rfl) (by rfl) (by rfl) (fun v => ∃ A n c, v = Value.slice A n c) (fun v w' => ∃ A5 n5 c5, v = Value.slice A5 n5 c5 ∧ J7 W7.heap.size (some q) (some (.slice A5 n5 c5)) C none [] w') (fun v => ∃ g, v = Value.slice (some ⟨g, 0, none⟩) 0 0) (fun v w' => ∃ g6, v = Value.slice (some ⟨g6, 0, none⟩) 0 0 ∧ J7 W7.heap.size (some q) (some (.slice (some ⟨g2, 0, none⟩) 0 0)) [] (some (.slice (some ⟨g6, 0, none⟩) 0 0)) [] w') (fun w1 hS1 hJ1 => ?_) (fun w1 hS1 hJ1 => ?_) ?_ ?_
      · have hz1 := HZ.out.below hS1
        refine eff_appPr (.tmp 49) (.tmp 51) (by rfl) w1 W7.heap.size (.slice (some ⟨g2, 0, none⟩) 0 0) [] B1 C C.length d1 (hJ1.p _ rfl) hz1.rc rfl hz1.nb (by rfl) (by rfl) (by have := hz1.lc; simp; omega) hJ1.sz fun v' w' hown' hb hg => ?_
        rw [List.nil_append] at hown'
        obtain ⟨A5, c5, rfl⟩ := hown'.shape
        exact ⟨hS1.trans hb, ⟨A5, _, c5, rfl⟩, A5, _, c5, rfl, hJ1.app1 hown' hg⟩
      · exact Eff.value (w' := w1.alloc (.cells #[] 22)) (v := .slice (some ⟨w1.heap.size, 0, none⟩) 0 0) (by go_simp) ⟨hS1.trans ((newB _ _).mono hS1.size), ⟨_, rfl⟩, _, rfl, hJ1.emp2⟩
      · as_aux_lemma =>
       rintro _ ⟨A5, n5, c5, rfl⟩
       rw [show List.erase [5, 6, 9, 10, 12] 5 = [6, 9, 10, 12] from rfl]; simp only [Act.put, pA, pB, pC]
       refine wkS (F := fun A5 n5 c5 w' => J7 W7.heap.size (some q) (some (.slice A5 n5 c5)) C none [] w') ?_
       refine TxtT.one 6 (by as_aux_lemma => kernel_rfl) (by rw [gA]; rfl) (by rfl) (by rfl) (fun v => ∃ g, v = Value.slice (some ⟨g, 0, none⟩) 0 0) (fun v w' => ∃ g6, v = Value.slice (some ⟨g6, 0, none⟩) 0 0 ∧ J7 W7.heap.size (some q) (some (.slice A5 n5 c5)) C (some (.slice (some ⟨g6, 0, none⟩) 0 0)) [] w') (fun w1 hS1 hJ1 => ?_) ?_
       · exact Eff.value (w' := w1.alloc (.cells #[] 22)) (v := .slice (some ⟨w1.heap.size, 0, none⟩) 0 0) (by go_simp) ⟨hS1.trans ((newB _ _).mono hS1.size), ⟨_, rfl⟩, _, rfl, hJ1.emp2⟩
       rintro _ ⟨g6, rfl⟩
       rw [show List.erase [6, 9, 10, 12] 6 = [9, 10, 12] from rfl]; simp only [Act.put, pA, pB, pC]
       refine wkG (F := fun g6 w' => J7 W7.heap.size (some q) (some (.slice A5 n5 c5)) C (some (.slice (some ⟨g6, 0, none⟩) 0 0)) [] w') ?_
       refine TxtT.one 9 (by as_aux_lemma => kernel_rfl) (by rw [gA]; rfl) (by rfl) (by rfl) (fun v => ∃ A n c, v = Value.slice A n c) (fun v w' => ∃ A9 n9 c9, v = Value.slice A9 n9 c9 ∧ J7 W7.heap.size (some q) (some (.slice A5 n5 c5)) C (some (.slice A9 n9 c9)) X w') (fun w1 hS1 hJ1 => ?_) ?_
       · have hz1 := HZ.out.below hS1
         refine eff_appTs (.tmp 53) (.tmp 55) (by rfl) w1 W7.heap.size (.slice (some ⟨g6, 0, none⟩) 0 0) [] D1 X O.length e1 (hJ1.t _ rfl) hz1.rx.1.symm hz1.rdd hz1.rx.lits hz1.nd (by rfl) (by rfl) (by have := hz1.lo; have := hz1.rx.1; simp; omega) hJ1.sz fun v' w' hown' hb hg => ?_
         rw [List.nil_append] at hown'
         obtain ⟨A9, n9, c9, rfl, hn9⟩ := hown'.shape
         exact ⟨hS1.trans hb, ⟨A9, _, c9, rfl⟩, A9, _, c9, rfl, hJ1.app2 hown' hg⟩
       rintro _ ⟨A9, n9, c9, rfl⟩
       rw [show List.erase [9, 10, 12] 9 = [10, 12] from rfl]; simp only [Act.put, pA, pB, pC]
       refine wkS (F := fun A9 n9 c9 w' => J7 W7.heap.size (some q) (some (.slice A5 n5 c5)) C (some (.slice A9 n9 c9)) X w') ?_
       refine TxtT.pure 10 (by rfl) (by rw [gA]; rfl) (by rfl) (by as_aux_lemma => kernel_rfl) (by rfl) ?_; apply Exists.intro; refine ⟨fun w1 hS1 => ?_, ?_⟩; (focus (skip; go_simp; with_reducible rfl))
       rw [show List.erase [10, 12] 10 = [12] from rfl]; simp only [Act.put, pA, pB, pC]
       refine TxtT.one 12 (by as_aux_lemma => kernel_rfl) (by rw [gA]; rfl) (by rfl) (by rfl) (fun v => v = undef) (fun _ w' => Blk w' q 28 #[.slice A1 s1.length c1, .slice A5 n5 c5, .slice A9 n9 c9] ∧ OwnP w' W7.heap.size (.slice A5 n5 c5) C ∧ OwnTS w' W7.heap.size (.slice A9 n9 c9) X ∧ W7.heap.size ≤ q) (fun w1 hS1 hJ1 => ?_) ?_
       · obtain ⟨hq1, hk⟩ := hJ1.bx q rfl
         obtain ⟨g0, g1, g2', f1, f2⟩ := hk.threeE
         have f0 := hk.frozen 0
         have hst := hJ1.fin hS1 (.slice A1 s1.length c1)
         exact Eff.skip (w' := ((w1.setCell ⟨q, 0, none⟩ (.slice A1 s1.length c1)).setCell ⟨q, 1, none⟩ (.slice A5 n5 c5)).setCell ⟨q, 2, none⟩ (.slice A9 n9 c9)) (by go_simp) ⟨hst.1, rfl, hst.2⟩
       rintro _ rfl
       rw [show List.erase [12] 12 = [] from rfl]; simp only [Act.put]
       refine ⟨rfl, fun w1 hS1 hJ1 => ?_⟩
       go_wp2_with fail
       go_meet
       exact ⟨q, _, _, rfl, hS1, hJ1.1, hJ1.2.1, hJ1.2.2.1, hJ1.2.2.2⟩
      · as_aux_lemma =>
       rintro _ ⟨g6, rfl⟩
       rw [show List.erase [5, 6, 9, 10, 12] 6 = [5, 9, 10, 12] from rfl]; simp only [Act.put, pA, pB, pC]
       refine wkG (F := fun g6 w' => J7 W7.heap.size (some q) (some (.slice (some ⟨g2, 0, none⟩) 0 0)) [] (some (.slice (some ⟨g6, 0, none⟩) 0 0)) [] w') ?_
       refine TxtT.one 5 (by as_aux_lemma => kernel_rfl) (by rw [gA]; rfl) (by rfl) (by rfl) (fun v => ∃ A n c, v = Value.slice A n c) (fun v w' => ∃ A5 n5 c5, v = Value.slice A5 n5 c5 ∧ J7 W7.heap.size (some q) (some (.slice A5 n5 c5)) C (some (.slice (some ⟨g6, 0, none⟩) 0 0)) [] w') (fun w1 hS1 hJ1 => ?_) ?_
       · have hz1 := HZ.out.below hS1
         refine eff_appPr (.tmp 49) (.tmp 51) (by rfl) w1 W7.heap.size (.slice (some ⟨g2, 0, none⟩) 0 0) [] B1 C C.length d1 (hJ1.p _ rfl) hz1.rc rfl hz1.nb (by rfl) (by rfl) (by have := hz1.lc; simp; omega) hJ1.sz fun v' w' hown' hb hg => ?_
         rw [List.nil_append] at hown'
         obtain ⟨A5, c5, rfl⟩ := hown'.shape
         exact ⟨hS1.trans hb, ⟨A5, _, c5, rfl⟩, A5, _, c5, rfl, hJ1.app1 hown' hg⟩
       rintro _ ⟨A5, n5, c5, rfl⟩
       rw [show List.erase [5, 9, 10, 12] 5 = [9, 10, 12] from rfl]; simp only [Act.put, pA, pB, pC]
       refine wkS (F := fun A5 n5 c5 w' => J7 W7.heap.size (some q) (some (.slice A5 n5 c5)) C (some (.slice (some ⟨g6, 0, none⟩) 0 0)) [] w') ?_
       refine TxtT.one 9 (by as_aux_lemma => kernel_rfl) (by rw [gA]; rfl) (by rfl) (by rfl) (fun v => ∃ A n c, v = Value.slice A n c) (fun v w' => ∃ A9 n9 c9, v = Value.slice A9 n9 c9 ∧ J7 W7.heap.size (some q) (some (.slice A5 n5 c5)) C (some (.slice A9 n9 c9)) X w') (fun w1 hS1 hJ1 => ?_) ?_
       · have hz1 := HZ.out.below hS1
         refine eff_appTs (.tmp 53) (.tmp 55) (by rfl) w1 W7.heap.size (.slice (some ⟨g6, 0, none⟩) 0 0) [] D1 X O.length e1 (hJ1.t _ rfl) hz1.rx.1.symm hz1.rdd hz1.rx.lits hz1.nd (by rfl) (by rfl) (by have := hz1.lo; have := hz1.rx.1; simp; omega) hJ1.sz fun v' w' hown' hb hg => ?_
         rw [List.nil_append] at hown'
         obtain ⟨A9, n9, c9, rfl, hn9⟩ := hown'.shape
         exact ⟨hS1.trans hb, ⟨A9, _, c9, rfl⟩, A9, _, c9, rfl, hJ1.app2 hown' hg⟩
       rintro _ ⟨A9, n9, c9, rfl⟩
       rw [show List.erase [9, 10, 12] 9 = [10, 12] from rfl]; simp only [Act.put, pA, pB, pC]
       refine wkS (F := fun A9 n9 c9 w' => J7 W7.heap.size (some q) (some (.slice A5 n5 c5)) C (some (.slice A9 n9 c9)) X w') ?_
       refine TxtT.pure 10 (by rfl) (by rw [gA]; rfl) (by rfl) (by as_aux_lemma => kernel_rfl) (by rfl) ?_; apply Exists.intro; refine ⟨fun w1 hS1 => ?_, ?_⟩; (focus (skip; go_simp; with_reducible rfl))
       rw [show List.erase [10, 12] 10 = [12] from rfl]; simp only [Act.put, pA, pB, pC]
       refine TxtT.one 12 (by as_aux_lemma => kernel_rfl) (by rw [gA]; rfl) (by rfl) (by rfl) (fun v => v = undef) (fun _ w' => Blk w' q 28 #[.slice A1 s1.length c1, .slice A5 n5 c5, .slice A9 n9 c9] ∧ OwnP w' W7.heap.size (.slice A5 n5 c5) C ∧ OwnTS w' W7.heap.size (.slice A9 n9 c9) X ∧ W7.heap.size ≤ q) (fun w1 hS1 hJ1 => ?_) ?_
       · obtain ⟨hq1, hk⟩ := hJ1.bx q rfl
         obtain ⟨g0, g1, g2', f1, f2⟩ := hk.threeE
         have f0 := hk.frozen 0
         have hst := hJ1.fin hS1 (.slice A1 s1.length c1)
         exact Eff.skip (w' := ((w1.setCell ⟨q, 0, none⟩ (.slice A1 s1.length c1)).setCell ⟨q, 1, none⟩ (.slice A5 n5 c5)).setCell ⟨q, 2, none⟩ (.slice A9 n9 c9)) (by go_simp) ⟨hst.1, rfl, hst.2⟩
       rintro _ rfl
       rw [show List.erase [12] 12 = [] from rfl]; simp only [Act.put]
       refine ⟨rfl, fun w1 hS1 hJ1 => ?_⟩
       go_wp2_with fail
       go_meet
       exact ⟨q, _, _, rfl, hS1, hJ1.1, hJ1.2.1, hJ1.2.2.1, hJ1.2.2.2⟩
    · as_aux_lemma =>
     rintro _ ⟨g6, rfl⟩
     rw [show List.erase [2, 5, 6, 9, 10, 11, 12] 6 = [2, 5, 9, 10, 11, 12] from rfl]; simp only [Act.put, pA, pB, pC]
     refine wkG (F := fun g6 w' => J7 W7.heap.size none none [] (some (.slice (some ⟨g6, 0, none⟩) 0 0)) [] w') ?_
     refine TxtT.two 2 11 (by as_aux_lemma => kernel_rfl) (by rw [gA]; rfl) (by rw [gA]; rfl) (by rfl) (by rfl) (by rfl) (by rfl) (fun v => ∃ g, v = Value.slice (some ⟨g, 0, none⟩) 0 0) (fun v w' => ∃ g2, v = Value.slice (some ⟨g2, 0, none⟩) 0 0 ∧ J7 W7.heap.size none (some (.slice (some ⟨g2, 0, none⟩) 0 0)) [] (some (.slice (some ⟨g6, 0, none⟩) 0 0)) [] w') (fun v => ∃ q, v = Value.pointer (some ⟨q, 0, none⟩)) (fun v w' => ∃ q, v = Value.pointer (some ⟨q, 0, none⟩) ∧ J7 W7.heap.size (some q) none [] (some (.slice (some ⟨g6, 0, none⟩) 0 0)) [] w') (fun w1 hS1 hJ1 => ?_) (fun w1 hS1 hJ1 => ?_) ?_ ?_
     · exact Eff.value (w' := w1.alloc (.cells #[] 42)) (v := .slice (some ⟨w1.heap.size, 0, none⟩) 0 0) (by go_simp) ⟨hS1.trans ((newB _ _).mono hS1.size), ⟨_, rfl⟩, _, rfl, hJ1.emp1⟩
     · exact Eff.value (w' := w1.alloc (.cells #[.slice none 0 0, .slice none 0 0, .slice none 0 0] 28)) (v := .pointer (some ⟨w1.heap.size, 0, none⟩)) (by go_simp) ⟨hS1.trans ((newB _ _).mono hS1.size), ⟨_, rfl⟩, _, rfl, hJ1.box⟩
     · as_aux_lemma =>
      rintro _ ⟨g2, rfl⟩
      rw [show List.erase [2, 5, 9, 10, 11, 12] 2 = [5, 9, 10, 11, 12] from rfl]; simp only [Act.put, pA, pB, pC]
      refine wkG (F := fun g2 w' => J7 W7.heap.size none (some (.slice (some ⟨g2, 0, none⟩) 0 0)) [] (some (.slice (some ⟨g6, 0, none⟩) 0 0)) [] w') ?_
      refine TxtT.two 5 11 (by as_aux_lemma => kernel_rfl) (by rw [gA]; rfl) (by rw [gA]; rfl) (by rfl) (by rfl) (by rfl) (by rfl) (fun v => ∃ A n c, v = Value.slice A n c) (fun v w' => ∃ A5 n5 c5, v = Value.slice A5 n5 c5 ∧ J7 W7.heap.size none (some (.slice A5 n5 c5)) C (some (.slice (some ⟨g6, 0, none⟩) 0 0)) [] w') (fun v => ∃ q, v = Value.pointer (some ⟨q, 0, none⟩)) (fun v w' => ∃ q, v = Value.pointer (some ⟨q, 0, none⟩) ∧ J7 W7.heap.size (some q) (some (.slice (some ⟨g2, 0, none⟩) 0 0)) [] (some (.slice (some ⟨g6, 0, none⟩) 0 0)) [] w') (fun w1 hS1 hJ1 => ?_) (fun w1 hS1 hJ1 => ?_) ?_ ?_
      · have hz1 := HZ.out.below hS1
        refine eff_appPr (.tmp 49) (.tmp 51) (by rfl) w1 W7.heap.size (.slice (some ⟨g2, 0, none⟩) 0 0) [] B1 C C.length d1 (hJ1.p _ rfl) hz1.rc rfl hz1.nb (by rfl) (by rfl) (by have := hz1.lc; simp; omega) hJ1.sz fun v' w' hown' hb hg => ?_
        rw [List.nil_append] at hown'
        obtain ⟨A5, c5, rfl⟩ := hown'.shape
        exact ⟨hS1.trans hb, ⟨A5, _, c5, rfl⟩, A5, _, c5, rfl, hJ1.app1 hown' hg⟩
      · exact Eff.value (w' := w1.alloc (.cells #[.slice none 0 0, .slice none 0 0, .slice none 0 0] 28)) (v := .pointer (some ⟨w1.heap.size, 0, none⟩)) (by go_simp) ⟨hS1.trans ((newB _ _).mono hS1.size), ⟨_, rfl⟩, _, rfl, hJ1.box⟩
      · as_aux_lemma =>
       rintro _ ⟨A5, n5, c5, rfl⟩
       rw [show List.erase [5, 9, 10, 11, 12] 5 = [9, 10, 11, 12] from rfl]; simp only [Act.put, pA, pB, pC]
       refine wkS (F := fun A5 n5 c5 w' => J7 W7.heap.size none (some (.slice A5 n5 c5)) C (some (.slice (some ⟨g6, 0, none⟩) 0 0)) [] w') ?_
       refine TxtT.two 9 11 (by as_aux_lemma => kernel_rfl) (by rw [gA]; rfl) (by rw [gA]; rfl) (by rfl) (by rfl) (by rfl) (by rfl) (fun v => ∃ A n c, v = Value.slice A n c) (fun v w' => ∃ A9 n9 c9, v = Value.slice A9 n9 c9 ∧ J7 W7.heap.size none (some (.slice A5 n5 c5)) C (some (.slice A9 n9 c9)) X w') (fun v => ∃ q, v = Value.pointer (some ⟨q, 0, none⟩)) (fun v w' => ∃ q, v = Value.pointer (some ⟨q, 0, none⟩) ∧ J7 W7.heap.size (some q) (some (.slice A5 n5 c5)) C (some (.slice (some ⟨g6, 0, none⟩) 0 0)) [] w') (fun w1 hS1 hJ1 => ?_) (fun w1 hS1 hJ1 => ?_) ?_ ?_
       · have hz1 := HZ.out.below hS1
         refine eff_appTs (.tmp 53) (.tmp 55) (by rfl) w1 W7.heap.size (.slice (some ⟨g6, 0, none⟩) 0 0) [] D1 X O.length e1 (hJ1.t _ rfl) hz1.rx.1.symm hz1.rdd hz1.rx.lits hz1.nd (by rfl) (by rfl) (by have := hz1.lo; have := hz1.rx.1; simp; omega) hJ1.sz fun v' w' hown' hb hg => ?_
         rw [List.nil_append] at hown'
         obtain ⟨A9, n9, c9, rfl, hn9⟩ := hown'.shape
         exact ⟨hS1.trans hb, ⟨A9, _, c9, rfl⟩, A9, _, c9, rfl, hJ1.app2 hown' hg⟩
       · exact Eff.value (w' := w1.alloc (.cells #[.slice none 0 0, .slice none 0 0, .slice none 0 0] 28)) (v := .pointer (some ⟨w1.heap.size, 0, none⟩)) (by go_simp) ⟨hS1.trans ((newB _ _).mono hS1.size), ⟨_, rfl⟩, _, rfl, hJ1.box⟩
       · as_aux_lemma =>
        rintro _ ⟨A9, n9, c9, rfl⟩
        rw [show List.erase [9, 10, 11, 12] 9 = [10, 11, 12] from rfl]; simp only [Act.put, pA, pB, pC]
        refine wkS (F := fun A9 n9 c9 w' => J7 W7.heap.size none (some (.slice A5 n5 c5)) C (some (.slice A9 n9 c9)) X w') ?_
        refine TxtT.pure 10 (by rfl) (by rw [gA]; rfl) (by rfl) (by as_aux_lemma => kernel_rfl) (by rfl) ?_; apply Exists.intro; refine ⟨fun w1 hS1 => ?_, ?_⟩; (focus (skip; go_simp; with_reducible rfl))
        rw [show List.erase [10, 11, 12] 10 = [11, 12] from rfl]; simp only [Act.put, pA, pB, pC]
        refine TxtT.one 11 (by as_aux_lemma => kernel_rfl) (by rw [gA]; rfl) (by rfl) (by rfl) (fun v => ∃ q, v = Value.pointer (some ⟨q, 0, none⟩)) (fun v w' => ∃ q, v = Value.pointer (some ⟨q, 0, none⟩) ∧ J7 W7.heap.size (some q) (some (.slice A5 n5 c5)) C (some (.slice A9 n9 c9)) X w') (fun w1 hS1 hJ1 => ?_) ?_
        · exact Eff.value (w' := w1.alloc (.cells #[.slice none 0 0, .slice none 0 0, .slice none 0 0] 28)) (v := .pointer (some ⟨w1.heap.size, 0, none⟩)) (by go_simp) ⟨hS1.trans ((newB _ _).mono hS1.size), ⟨_, rfl⟩, _, rfl, hJ1.box⟩
        rintro _ ⟨q, rfl⟩
        rw [show List.erase [11, 12] 11 = [12] from rfl]; simp only [Act.put, pA, pB, pC]
        refine wkP (F := fun q w' => J7 W7.heap.size (some q) (some (.slice A5 n5 c5)) C (some (.slice A9 n9 c9)) X w') ?_
        refine TxtT.one 12 (by as_aux_lemma => kernel_rfl) (by rw [gA]; rfl) (by rfl) (by rfl) (fun v => v = undef) (fun _ w' => Blk w' q 28 #[.slice A1 s1.length c1, .slice A5 n5 c5, .slice A9 n9 c9] ∧ OwnP w' W7.heap.size (.slice A5 n5 c5) C ∧ OwnTS w' W7.heap.size (.slice A9 n9 c9) X ∧ W7.heap.size ≤ q) (fun w1 hS1 hJ1 => ?_) ?_
        · obtain ⟨hq1, hk⟩ := hJ1.bx q rfl
          obtain ⟨g0, g1, g2', f1, f2⟩ := hk.threeE
          have f0 := hk.frozen 0
          have hst := hJ1.fin hS1 (.slice A1 s1.length c1)
          exact Eff.skip (w' := ((w1.setCell ⟨q, 0, none⟩ (.slice A1 s1.length c1)).setCell ⟨q, 1, none⟩ (.slice A5 n5 c5)).setCell ⟨q, 2, none⟩ (.slice A9 n9 c9)) (by go_simp) ⟨hst.1, rfl, hst.2⟩
        rintro _ rfl
        rw [show List.erase [12] 12 = [] from rfl]; simp only [Act.put]
        refine ⟨rfl, fun w1 hS1 hJ1 => ?_⟩
        go_wp2_with fail
        go_meet
        exact ⟨q, _, _, rfl, hS1, hJ1.1, hJ1.2.1, hJ1.2.2.1, hJ1.2.2.2⟩
       · as_aux_lemma =>
        rintro _ ⟨q, rfl⟩
        rw [show List.erase [9, 10, 11, 12] 11 = [9, 10, 12] from rfl]; simp only [Act.put, pA, pB, pC]
        refine wkP (F := fun q w' => J7 W7.heap.size (some q) (some (.slice A5 n5 c5)) C (some (.slice (some ⟨g6, 0, none⟩) 0 0)) [] w') ?_
        refine TxtT.one 9 (by as_aux_lemma => kernel_rfl) (by rw [gA]; rfl) (by rfl) (by rfl) (fun v => ∃ A n c, v = Value.slice A n c) (fun v w' => ∃ A9 n9 c9, v = Value.slice A9 n9 c9 ∧ J7 W7.heap.size (some q) (some (.slice A5 n5 c5)) C (some (.slice A9 n9 c9)) X w') (fun w1 hS1 hJ1 => ?_) ?_
        · have hz1 := HZ.out.below hS1
          refine eff_appTs (.tmp 53) (.tmp 55) (by rfl) w1 W7.heap.size (.slice (some ⟨g6, 0, none⟩) 0 0) [] D1 X O.length e1 (hJ1.t _ rfl) hz1.rx.1.symm hz1.rdd hz1.rx.lits hz1.nd (by rfl) (by rfl) (by have := hz1.lo; have := hz1.rx.1; simp; omega) hJ1.sz fun v' w' hown' hb hg => ?_
          rw [List.nil_append] at hown'
          obtain ⟨A9, n9, c9, rfl, hn9⟩ := hown'.shape
          exact ⟨hS1.trans hb, ⟨A9, _, c9, rfl⟩, A9, _, c9, rfl, hJ1.app2 hown' hg⟩
        rintro _ ⟨A9, n9, c9, rfl⟩
        rw [show List.erase [9, 10, 12] 9 = [10, 12] from rfl]; simp only [Act.put, pA, pB, pC]
        refine wkS (F := fun A9 n9 c9 w' => J7 W7.heap.size (some q) (some (.slice A5 n5 c5)) C (some (.slice A9 n9 c9)) X w') ?_
        refine TxtT.pure 10 (by rfl) (by rw [gA]; rfl) (by rfl) (by as_aux_lemma => kernel_rfl) (by rfl) ?_; apply Exists.intro; refine ⟨fun w1 hS1 => ?_, ?_⟩; (focus (skip; go_simp; with_reducible rfl))
        rw [show List.erase [10, 12] 10 = [12] from rfl]; simp only [Act.put, pA, pB, pC]
        refine TxtT.one 12 (by as_aux_lemma => kernel_rfl) (by rw [gA]; rfl) (by rfl) (by rfl) (fun v => v = undef) (fun _ w' => Blk w' q 28 #[.slice A1 s1.length c1, .slice A5 n5 c5, .slice A9 n9 c9] ∧ OwnP w' W7.heap.size (.slice A5 n5 c5) C ∧ OwnTS w' W7.heap.size (.slice A9 n9 c9) X ∧ W7.heap.size ≤ q) (fun w1 hS1 hJ1 => ?_) ?_
        · obtain ⟨hq1, hk⟩ := hJ1.bx q rfl
          obtain ⟨g0, g1, g2', f1, f2⟩ := hk.threeE
          have f0 := hk.frozen 0
          have hst := hJ1.fin hS1 (.slice A1 s1.length c1)
          exact Eff.skip (w' := ((w1.setCell ⟨q, 0, none⟩ (.slice A1 s1.length c1)).setCell ⟨q, 1, none⟩ (.slice A5 n5 c5)).setCell ⟨q, 2, none⟩ (.slice A9 n9 c9)) (by go_simp) ⟨hst.1, rfl, hst.2⟩
        rintro _ rfl
        rw [show List.erase [12] 12 = [] from rfl]; simp only [Act.put]
        refine ⟨rfl, fun w1 hS1 hJ1 => ?_⟩
        go_wp2_with fail
        go_meet
        exact ⟨q, _, _, rfl, hS1, hJ1.1, hJ1.2.1, hJ1.2.2.1, hJ1.2.2.2⟩
      · as_aux_lemma =>
       rintro _ ⟨q, rfl⟩
       rw [show List.erase [5, 9, 10, 11, 12] 11 = [5, 9, 10, 12] from rfl]; simp only [Act.put, pA, pB, pC]
       refine wkP (F := fun q w' => J7 W7.heap.size (some q) (some (.slice (some ⟨g2, 0, none⟩) 0 0)) [] (some (.slice (some ⟨g6, 0, none⟩) 0 0)) [] w') ?_
       refine TxtT.one 5 (by as_aux_lemma => kernel_rfl) (by rw [gA]; rfl) (by rfl) (by rfl) (fun v => ∃ A n c, v = Value.slice A n c) (fun v w' => ∃ A5 n5 c5, v = Value.slice A5 n5 c5 ∧ J7 W7.heap.size (some q) (some (.slice A5 n5 c5)) C (some (.slice (some ⟨g6, 0, none⟩) 0 0)) [] w') (fun w1 hS1 hJ1 => ?_) ?_
       · have hz1 := HZ.out.below hS1
         refine eff_appPr (.tmp 49) (.tmp 51) (by rfl) w1 W7.heap.size (.slice (some ⟨g2, 0, none⟩) 0 0) [] B1 C C.length d1 (hJ1.p _ rfl) hz1.rc rfl hz1.nb (by rfl) (by rfl) (by have := hz1.lc; simp; omega) hJ1.sz fun v' w' hown' hb hg => ?_
         rw [List.nil_append] at hown'
         obtain ⟨A5, c5, rfl⟩ := hown'.shape
         exact ⟨hS1.trans hb, ⟨A5, _, c5, rfl⟩, A5, _, c5, rfl, hJ1.app1 hown' hg⟩
       rintro _ ⟨A5, n5, c5, rfl⟩
       rw [show List.erase [5, 9, 10, 12] 5 = [9, 10, 12] from rfl]; simp only [Act.put, pA, pB, pC]
       refine wkS (F := fun A5 n5 c5 w' => J7 W7.heap.size (some q) (some (.slice A5 n5 c5)) C (some (.slice (some ⟨g6, 0, none⟩) 0 0)) [] w') ?_
       refine TxtT.one 9 (by as_aux_lemma => kernel_rfl) (by rw [gA]; rfl) (by rfl) (by rfl) (fun v => ∃ A n c, v = Value.slice A n c) (fun v w' => ∃ A9 n9 c9, v = Value.slice A9 n9 c9 ∧ J7 W7.heap.size (some q) (some (.slice A5 n5 c5)) C (some (.slice A9 n9 c9)) X w') (fun w1 hS1 hJ1 => ?_) ?_
       · have hz1 := HZ.out.below hS1
         refine eff_appTs (.tmp 53) (.tmp 55) (by rfl) w1 W7.heap.size (.slice (some ⟨g6, 0, none⟩) 0 0) [] D1 X O.length e1 (hJ1.t _ rfl) hz1.rx.1.symm hz1.rdd hz1.rx.lits hz1.nd (by rfl) (by rfl) (by have := hz1.lo; have := hz1.rx.1; simp; omega) hJ1.sz fun v' w' hown' hb hg => ?_
         rw [List.nil_append] at hown'
         obtain ⟨A9, n9, c9, rfl, hn9⟩ := hown'.shape
         exact ⟨hS1.trans hb, ⟨A9, _, c9, rfl⟩, A9, _, c9, rfl, hJ1.app2 hown' hg⟩
       rintro _ ⟨A9, n9, c9, rfl⟩
       rw [show List.erase [9, 10, 12] 9 = [10, 12] from rfl]; simp only [Act.put, pA, pB, pC]
       refine wkS (F := fun A9 n9 c9 w' => J7 W7.heap.size (some q) (some (.slice A5 n5 c5)) C (some (.slice A9 n9 c9)) X w') ?_
       refine TxtT.pure 10 (by rfl) (by rw [gA]; rfl) (by rfl) (by as_aux_lemma => kernel_rfl) (by rfl) ?_; apply Exists.intro; refine ⟨fun w1 hS1 => ?_, ?_⟩; (focus (skip; go_simp; with_reducible rfl))
       rw [show List.erase [10, 12] 10 = [12] from rfl]; simp only [Act.put, pA, pB, pC]
       refine TxtT.one 12 (by as_aux_lemma => kernel_rfl) (by rw [gA]; rfl) (by rfl) (by rfl) (fun v => v = undef) (fun _ w' => Blk w' q 28 #[.slice A1 s1.length c1, .slice A5 n5 c5, .slice A9 n9 c9] ∧ OwnP w' W7.heap.size (.slice A5 n5 c5) C ∧ OwnTS w' W7.heap.size (.slice A9 n9 c9) X ∧ W7.heap.size ≤ q) (fun w1 hS1 hJ1 => ?_) ?_
       · obtain ⟨hq1, hk⟩ := hJ1.bx q rfl
         obtain ⟨g0, g1, g2', f1, f2⟩ := hk.threeE
         have f0 := hk.frozen 0
         have hst := hJ1.fin hS1 (.slice A1 s1.length c1)
         exact Eff.skip (w' := ((w1.setCell ⟨q, 0, none⟩ (.slice A1 s1.length c1)).setCell ⟨q, 1, none⟩ (.slice A5 n5 c5)).setCell ⟨q, 2, none⟩ (.slice A9 n9 c9)) (by go_simp) ⟨hst.1, rfl, hst.2⟩
       rintro _ rfl
       rw [show List.erase [12] 12 = [] from rfl]; simp only [Act.put]
       refine ⟨rfl, fun w1 hS1 hJ1 => ?_⟩
       go_wp2_with fail
       go_meet
       exact ⟨q, _, _, rfl, hS1, hJ1.1, hJ1.2.1, hJ1.2.2.1, hJ1.2.2.2⟩
     · as_aux_lemma =>
      rintro _ ⟨q, rfl⟩
      rw [show List.erase [2, 5, 9, 10, 11, 12] 11 = [2, 5, 9, 10, 12] from rfl]; simp only [Act.put, pA, pB, pC]
      refine wkP (F := fun q w' => J7 W7.heap.size (some q) none [] (some (.slice (some ⟨g6, 0, none⟩) 0 0)) [] w') ?_
      refine TxtT.one 2 (by as_aux_lemma => kernel_rfl) (by rw [gA]; rfl) (by rfl) (by rfl) (fun v => ∃ g, v = Value.slice (some ⟨g, 0, none⟩) 0 0) (fun v w' => ∃ g2, v = Value.slice (some ⟨g2, 0, none⟩) 0 0 ∧ J7 W7.heap.size (some q) (some (.slice (some ⟨g2, 0, none⟩) 0 0)) [] (some (.slice (some ⟨g6, 0, none⟩) 0 0)) [] w') (fun w1 hS1 hJ1 => ?_) ?_
      · exact Eff.value (w' := w1.alloc (.cells #[] 42)) (v := .slice (some ⟨w1.heap.size, 0, none⟩) 0 0) (by go_simp) ⟨hS1.trans ((newB _ _).mono hS1.size), ⟨_, rfl⟩, _, rfl, hJ1.emp1⟩
      rintro _ ⟨g2, rfl⟩
      rw [show List.erase [2, 5, 9, 10, 12] 2 = [5, 9, 10, 12] from rfl]; simp only [Act.put, pA, pB, pC]
      refine wkG (F := fun g2 w' => J7 W7.heap.size (some q) (some (.slice (some ⟨g2, 0, none⟩) 0 0)) [] (some (.slice (some ⟨g6, 0, none⟩) 0 0)) [] w') ?_
      refine TxtT.one 5 (by as_aux_lemma => kernel_rfl) (by rw [gA]; rfl) (by rfl) (by rfl) (fun v => ∃ A n c, v = Value.slice A n c) (fun v w' => ∃ A5 n5 c5, v = Value.slice A5 n5 c5 ∧ J7 W7.heap.size (some q) (some (.slice A5 n5 c5)) C (some (.slice (some ⟨g6, 0, none⟩) 0 0)) [] w') (fun w1 hS1 hJ1 => ?_) ?_
      · have hz1 := HZ.out.below hS1
        refine eff_appPr (.tmp 49) (.tmp 51) (by rfl) w1 W7.heap.size (.slice (some ⟨g2, 0, none⟩) 0 0) [] B1 C C.length d1 (hJ1.p _ rfl) hz1.rc rfl hz1.nb (by rfl) (by rfl) (by have := hz1.lc; simp; omega) hJ1.sz fun v' w' hown' hb hg => ?_
        rw [List.nil_append] at hown'
        obtain ⟨A5, c5, rfl⟩ := hown'.shape
        exact ⟨hS1.trans hb, ⟨A5, _, c5, rfl⟩, A5, _, c5, rfl, hJ1.app1 hown' hg⟩
      rintro _ ⟨A5, n5, c5, rfl⟩
      rw [show List.erase [5, 9, 10, 12] 5 = [9, 10, 12] from rfl]; simp only [Act.put, pA, pB, pC]
      refine wkS (F := fun A5 n5 c5 w' => J7 W7.heap.size (some q) (some (.slice A5 n5 c5)) C (some (.slice (some ⟨g6, 0, none⟩) 0 0)) [] w') ?_
      refine TxtT.one 9 (by as_aux_lemma => kernel_rfl) (by rw [gA]; rfl) (by rfl) (by rfl) (fun v => ∃ A n c, v = Value.slice A n c) (fun v w' => ∃ A9 n9 c9, v = Value.slice A9 n9 c9 ∧ J7 W7.heap.size (some q) (some (.slice A5 n5 c5)) C (some (.slice A9 n9 c9)) X w') (fun w1 hS1 hJ1 => ?_) ?_
      · have hz1 := HZ.out.below hS1
        refine eff_appTs (.tmp 53) (.tmp 55) (by rfl) w1 W7.heap.size (.slice (some ⟨g6, 0, none⟩) 0 0) [] D1 X O.length e1 (hJ1.t _ rfl) hz1.rx.1.symm hz1.rdd hz1.rx.lits hz1.nd (by rfl) (by rfl) (by have := hz1.lo; have := hz1.rx.1; simp; omega) hJ1.sz fun v' w' hown' hb hg => ?_
        rw [List.nil_append] at hown'
        obtain ⟨A9, n9, c9, rfl, hn9⟩ := hown'.shape
        exact ⟨hS1.trans hb, ⟨A9, _, c9, rfl⟩, A9, _, c9, rfl, hJ1.app2 hown' hg⟩
      rintro _ ⟨A9, n9, c9, rfl⟩
      rw [show List.erase [9, 10, 12] 9 = [10, 12] from rfl]; simp only [Act.put, pA, pB, pC]
      refine wkS (F := fun A9 n9 c9 w' => J7 W7.heap.size (some q) (some (.slice A5 n5 c5)) C (some (.slice A9 n9 c9)) X w') ?_
      refine TxtT.pure 10 (by rfl) (by rw [gA]; rfl) (by rfl) (by as_aux_lemma => kernel_rfl) (by rfl) ?_; apply Exists.intro; refine ⟨fun w1 hS1 => ?_, ?_⟩; (focus (skip; go_simp; with_reducible rfl))
      rw [show List.erase [10, 12] 10 = [12] from rfl]; simp only [Act.put, pA, pB, pC]
      refine TxtT.one 12 (by as_aux_lemma => kernel_rfl) (by rw [gA]; rfl) (by rfl) (by rfl) (fun v => v = undef) (fun _ w' => Blk w' q 28 #[.slice A1 s1.length c1, .slice A5 n5 c5, .slice A9 n9 c9] ∧ OwnP w' W7.heap.size (.slice A5 n5 c5) C ∧ OwnTS w' W7.heap.size (.slice A9 n9 c9) X ∧ W7.heap.size ≤ q) (fun w1 hS1 hJ1 => ?_) ?_
      · obtain ⟨hq1, hk⟩ := hJ1.bx q rfl
        obtain ⟨g0, g1, g2', f1, f2⟩ := hk.threeE
        have f0 := hk.frozen 0
        have hst := hJ1.fin hS1 (.slice A1 s1.length c1)
        exact Eff.skip (w' := ((w1.setCell ⟨q, 0, none⟩ (.slice A1 s1.length c1)).setCell ⟨q, 1, none⟩ (.slice A5 n5 c5)).setCell ⟨q, 2, none⟩ (.slice A9 n9 c9)) (by go_simp) ⟨hst.1, rfl, hst.2⟩
      rintro _ rfl
      rw [show List.erase [12] 12 = [] from rfl]; simp only [Act.put]
      refine ⟨rfl, fun w1 hS1 hJ1 => ?_⟩
      go_wp2_with fail
      go_meet
      exact ⟨q, _, _, rfl, hS1, hJ1.1, hJ1.2.1, hJ1.2.2.1, hJ1.2.2.2⟩
    · as_aux_lemma =>
     rintro _ ⟨q, rfl⟩
     rw [show List.erase [2, 5, 6, 9, 10, 11, 12] 11 = [2, 5, 6, 9, 10, 12] from rfl]; simp only [Act.put, pA, pB, pC]
     refine wkP (F := fun q w' => J7 W7.heap.size (some q) none [] none [] w') ?_
     refine TxtT.two 2 6 (by as_aux_lemma => kernel_rfl) (by rw [gA]; rfl) (by rw [gA]; rfl) (by rfl) (by rfl) (by rfl) (by rfl) (fun v => ∃ g, v = Value.slice (some ⟨g, 0, none⟩) 0 0) (fun v w' => ∃ g2, v = Value.slice (some ⟨g2, 0, none⟩) 0 0 ∧ J7 W7.heap.size (some q) (some (.slice (some ⟨g2, 0, none⟩) 0 0)) [] none [] w') (fun v => ∃ g, v = Value.slice (some ⟨g, 0, none⟩) 0 0) (fun v w' => ∃ g6, v = Value.slice (some ⟨g6, 0, none⟩) 0 0 ∧ J7 W7.heap.size (some q) none [] (some (.slice (some ⟨g6, 0, none⟩) 0 0)) [] w') (fun w1 hS1 hJ1 => ?_) (fun w1 hS1 hJ1 => ?_) ?_ ?_
     · exact Eff.value (w' := w1.alloc (.cells #[] 42)) (v := .slice (some ⟨w1.heap.size, 0, none⟩) 0 0) (by go_simp) ⟨hS1.trans ((newB _ _).mono hS1.size), ⟨_, rfl⟩, _, rfl, hJ1.emp1⟩
     · exact Eff.value (w' := w1.alloc (.cells #[] 22)) (v := .slice (some ⟨w1.heap.size, 0, none⟩) 0 0) (by go_simp) ⟨hS1.trans ((newB _ _).mono hS1.size), ⟨_, rfl⟩, _, rfl, hJ1.emp2⟩
     · as_aux_lemma =>
      rintro _ ⟨g2, rfl⟩
      rw [show List.erase [2, 5, 6, 9, 10, 12] 2 = [5, 6, 9, 10, 12] from rfl]; simp only [Act.put, pA, pB, pC]
      refine wkG (F := fun g2 w' => J7 W7.heap.size (some q) (some (.slice (some ⟨g2, 0, none⟩) 0 0)) [] none [] w') ?_
      refine TxtT.two 5 6 (by as_aux_lemma => kernel_rfl) (by rw [gA]; rfl) (by rw [gA]; rfl) (by rfl) (by rfl) (by rfl) (by rfl) (fun v => ∃ A n c, v = Value.slice A n c) (fun v w' => ∃ A5 n5 c5, v = Value.slice A5 n5 c5 ∧ J7 W7.heap.size (some q) (some (.slice A5 n5 c5)) C none [] w') (fun v => ∃ g, v = Value.slice (some ⟨g, 0, none⟩) 0 0) (fun v w' => ∃ g6, v = Value.slice (some ⟨g6, 0, none⟩) 0 0 ∧ J7 W7.heap.size (some q) (some (.slice (some ⟨g2, 0, none⟩) 0 0)) [] (some (.slice (some ⟨g6, 0, none⟩) 0 0)) [] w') (fun w1 hS1 hJ1 => ?_) (fun w1 hS1 hJ1 => ?_) ?_ ?_
      · have hz1 := HZ.out.below hS1
        refine eff_appPr (.tmp 49) (.tmp 51) (by rfl) w1 W7.heap.size (.slice (some ⟨g2, 0, none⟩) 0 0) [] B1 C C.length d1 (hJ1.p _ rfl) hz1.rc rfl hz1.nb (by rfl) (by rfl) (by have := hz1.lc; simp; omega) hJ1.sz fun v' w' hown' hb hg => ?_
        rw [List.nil_append] at hown'
        obtain ⟨A5, c5, rfl⟩ := hown'.shape
        exact ⟨hS1.trans hb, ⟨A5, _, c5, rfl⟩, A5, _, c5, rfl, hJ1.app1 hown' hg⟩
      · exact Eff.value (w' := w1.alloc (.cells #[] 22)) (v := .slice (some ⟨w1.heap.size, 0, none⟩) 0 0) (by go_simp) ⟨hS1.trans ((newB _ _).mono hS1.size), ⟨_, rfl⟩, _, rfl, hJ1.emp2⟩
      · as_aux_lemma =>
       rintro _ ⟨A5, n5, c5, rfl⟩
       rw [show List.erase [5, 6, 9, 10, 12] 5 = [6, 9, 10, 12] from rfl]; simp only [Act.put, pA, pB, pC]
       refine wkS (F := fun A5 n5 c5 w' => J7 W7.heap.size (some q) (some (.slice A5 n5 c5)) C none [] w') ?_
       refine TxtT.one 6 (by as_aux_lemma => kernel_rfl) (by rw [gA]; rfl) (by rfl) (by rfl) (fun v => ∃ g, v = Value.slice (some ⟨g, 0, none⟩) 0 0) (fun v w' => ∃ g6, v = Value.slice (some ⟨g6, 0, none⟩) 0 0 ∧ J7 W7.heap.size (some q) (some (.slice A5 n5 c5)) C (some (.slice (some ⟨g6, 0, none⟩) 0 0)) [] w') (fun w1 hS1 hJ1 => ?_) ?_
       · exact Eff.value (w' := w1.alloc (.cells #[] 22)) (v := .slice (some ⟨w1.heap.size, 0, none⟩) 0 0) (by go_simp) ⟨hS1.trans ((newB _ _).mono hS1.size), ⟨_, rfl⟩, _, rfl, hJ1.emp2⟩
       rintro _ ⟨g6, rfl⟩
       rw [show List.erase [6, 9, 10, 12] 6 = [9, 10, 12] from rfl]; simp only [Act.put, pA, pB, pC]
       refine wkG (F := fun g6 w' => J7 W7.heap.size (some q) (some (.slice A5 n5 c5)) C (some (.slice (some ⟨g6, 0, none⟩) 0 0)) [] w') ?_
       refine TxtT.one 9 (by as_aux_lemma => kernel_rfl) (by rw [gA]; rfl) (by rfl) (by rfl) (fun v => ∃ A n c, v = Value.slice A n c) (fun v w' => ∃ A9 n9 c9, v = Value.slice A9 n9 c9 ∧ J7 W7.heap.size (some q) (some (.slice A5 n5 c5)) C (some (.slice A9 n9 c9)) X w') (fun w1 hS1 hJ1 => ?_) ?_
       · have hz1 := HZ.out.below hS1
         refine eff_appTs (.tmp 53) (.tmp 55) (by rfl) w1 W7.heap.size (.slice (some ⟨g6, 0, none⟩) 0 0) [] D1 X O.length e1 (hJ1.t _ rfl) hz1.rx.1.symm hz1.rdd hz1.rx.lits hz1.nd (by rfl) (by rfl) (by have := hz1.lo; have := hz1.rx.1; simp; omega) hJ1.sz fun v' w' hown' hb hg => ?_
         rw [List.nil_append] at hown'
         obtain ⟨A9, n9, c9, rfl, hn9⟩ := hown'.shape
         exact ⟨hS1.trans hb, ⟨A9, _, c9, rfl⟩, A9, _, c9, rfl, hJ1.app2 hown' hg⟩
       rintro _ ⟨A9, n9, c9, rfl⟩
       rw [show List.erase [9, 10, 12] 9 = [10, 12] from rfl]; simp only [Act.put, pA, pB, pC]
       refine wkS (F := fun A9 n9 c9 w' => J7 W7.heap.size (some q) (some (.slice A5 n5 c5)) C (some (.slice A9 n9 c9)) X w') ?_
       refine TxtT.pure 10 (by rfl) (by rw [gA]; rfl) (by rfl) (by as_aux_lemma => kernel_rfl) (by rfl) ?_; apply Exists.intro; refine ⟨fun w1 hS1 => ?_, ?_⟩; (focus (skip; go_simp; with_reducible rfl))
       rw [show List.erase [10, 12] 10 = [12] from rfl]; simp only [Act.put, pA, pB, pC]
       refine TxtT.one 12 (by as_aux_lemma => kernel_rfl) (by rw [gA]; rfl) (by rfl) (by rfl) (fun v => v = undef) (fun _ w' => Blk w' q 28 #[.slice A1 s1.length c1, .slice A5 n5 c5, .slice A9 n9 c9] ∧ OwnP w' W7.heap.size (.slice A5 n5 c5) C ∧ OwnTS w' W7.heap.size (.slice A9 n9 c9) X ∧ W7.heap.size ≤ q) (fun w1 hS1 hJ1 => ?_) ?_
       · obtain ⟨hq1, hk⟩ := hJ1.bx q rfl
         obtain ⟨g0, g1, g2', f1, f2⟩ := hk.threeE
         have f0 := hk.frozen 0
         have hst := hJ1.fin hS1 (.slice A1 s1.length c1)
         exact Eff.skip (w' := ((w1.setCell ⟨q, 0, none⟩ (.slice A1 s1.length c1)).setCell ⟨q, 1, none⟩ (.slice A5 n5 c5)).setCell ⟨q, 2, none⟩ (.slice A9 n9 c9)) (by go_simp) ⟨hst.1, rfl, hst.2⟩
       rintro _ rfl
       rw [show List.erase [12] 12 = [] from rfl]; simp only [Act.put]
       refine ⟨rfl, fun w1 hS1 hJ1 => ?_⟩
       go_wp2_with fail
       go_meet
       exact ⟨q, _, _, rfl, hS1, hJ1.1, hJ1.2.1, hJ1.2.2.1, hJ1.2.2.2⟩
      · as_aux_lemma =>
       rintro _ ⟨g6, rfl⟩
       rw [show List.erase [5, 6, 9, 10, 12] 6 = [5, 9, 10, 12] from rfl]; simp only [Act.put, pA, pB, pC]
       refine wkG (F := fun g6 w' => J7 W7.heap.size (some q) (some (.slice (some ⟨g2, 0, none⟩) 0 0)) [] (some (.slice (some ⟨g6, 0, none⟩) 0 0)) [] w') ?_
       refine TxtT.one 5 (by as_aux_lemma => kernel_rfl) (by rw [gA]; rfl) (by rfl) (by rfl) (fun v => ∃ A n c, v = Value.slice A n c) (fun v w' => ∃ A5 n5 c5, v = Value.slice A5 n5 c5 ∧ J7 W7.heap.size (some q) (some (.slice A5 n5 c5)) C (some (.slice (some ⟨g6, 0, none⟩) 0 0)) [] w') (fun w1 hS1 hJ1 => ?_) ?_
       · have hz1 := HZ.out.below hS1
         refine eff_appPr (.tmp 49) (.tmp 51) (by rfl) w1 W7.heap.size (.slice (some ⟨g2, 0, none⟩) 0 0) [] B1 C C.length d1 (hJ1.p _ rfl) hz1.rc rfl hz1.nb (by rfl) (by rfl) (by have := hz1.lc; simp; omega) hJ1.sz fun v' w' hown' hb hg => ?_
         rw [List.nil_append] at hown'
         obtain ⟨A5, c5, rfl⟩ := hown'.shape
         exact ⟨hS1.trans hb, ⟨A5, _, c5, rfl⟩, A5, _, c5, rfl, hJ1.app1 hown' hg⟩
       rintro _ ⟨A5, n5, c5, rfl⟩
       rw [show List.erase [5, 9, 10, 12] 5 = [9, 10, 12] from rfl]; simp only [Act.put, pA, pB, pC]
       refine wkS (F := fun A5 n5 c5 w' => J7 W7.heap.size (some q) (some (.slice A5 n5 c5)) C (some (.slice (some ⟨g6, 0, none⟩) 0 0)) [] w') ?_
       refine TxtT.one 9 (by as_aux_lemma => kernel_rfl) (by rw [gA]; rfl) (by rfl) (by rfl) (fun v => ∃ A n c, v = Value.slice A n c) (fun v w' => ∃ A9 n9 c9, v = Value.slice A9 n9 c9 ∧ J7 W7.heap.size (some q) (some (.slice A5 n5 c5)) C (some (.slice A9 n9 c9)) X w') (fun w1 hS1 hJ1 => ?_) ?_
       · have hz1 := HZ.out.below hS1
         refine eff_appTs (.tmp 53) (.tmp 55) (by rfl) w1 W7.heap.size (.slice (some ⟨g6, 0, none⟩) 0 0) [] D1 X O.length e1 (hJ1.t _ rfl) hz1.rx.1.symm hz1.rdd hz1.rx.lits hz1.nd (by rfl) (by rfl) (by have := hz1.lo; have := hz1.rx.1; simp; omega) hJ1.sz fun v' w' hown' hb hg => ?_
         rw [List.nil_append] at hown'
         obtain ⟨A9, n9, c9, rfl, hn9⟩ := hown'.shape
         exact ⟨hS1.trans hb, ⟨A9, _, c9, rfl⟩, A9, _, c9, rfl, hJ1.app2 hown' hg⟩
       rintro _ ⟨A9, n9, c9, rfl⟩
       rw [show List.erase [9, 10, 12] 9 = [10, 12] from rfl]; simp only [Act.put, pA, pB, pC]
       refine wkS (F := fun A9 n9 c9 w' => J7 W7.heap.size (some q) (some (.slice A5 n5 c5)) C (some (.slice A9 n9 c9)) X w') ?_
       refine TxtT.pure 10 (by rfl) (by rw [gA]; rfl) (by rfl) (by as_aux_lemma => kernel_rfl) (by rfl) ?_; apply Exists.intro; refine ⟨fun w1 hS1 => ?_, ?_⟩; (focus (skip; go_simp; with_reducible rfl))
       rw [show List.erase [10, 12] 10 = [12] from rfl]; simp only [Act.put, pA, pB, pC]
       refine TxtT.one 12 (by as_aux_lemma => kernel_rfl) (by rw [gA]; rfl) (by rfl) (by rfl) (fun v => v = undef) (fun _ w' => Blk w' q 28 #[.slice A1 s1.length c1, .slice A5 n5 c5, .slice A9 n9 c9] ∧ OwnP w' W7.heap.size (.slice A5 n5 c5) C ∧ OwnTS w' W7.heap.size (.slice A9 n9 c9) X ∧ W7.heap.size ≤ q) (fun w1 hS1 hJ1 => ?_) ?_
       · obtain ⟨hq1, hk⟩ := hJ1.bx q rfl
         obtain ⟨g0, g1, g2', f1, f2⟩ := hk.threeE
         have f0 := hk.frozen 0
         have hst := hJ1.fin hS1 (.slice A1 s1.length c1)
         exact Eff.skip (w' := ((w1.setCell ⟨q, 0, none⟩ (.slice A1 s1.length c1)).setCell ⟨q, 1, none⟩ (.slice A5 n5 c5)).setCell ⟨q, 2, none⟩ (.slice A9 n9 c9)) (by go_simp) ⟨hst.1, rfl, hst.2⟩
       rintro _ rfl
       rw [show List.erase [12] 12 = [] from rfl]; simp only [Act.put]
       refine ⟨rfl, fun w1 hS1 hJ1 => ?_⟩
       go_wp2_with fail
       go_meet
       exact ⟨q, _, _, rfl, hS1, hJ1.1, hJ1.2.1, hJ1.2.2.1, hJ1.2.2.2⟩
     · as_aux_lemma =>
      rintro _ ⟨g6, rfl⟩
      rw [show List.erase [2, 5, 6, 9, 10, 12] 6 = [2, 5, 9, 10, 12] from rfl]; simp only [Act.put, pA, pB, pC]
      refine wkG (F := fun g6 w' => J7 W7.heap.size (some q) none [] (some (.slice (some ⟨g6, 0, none⟩) 0 0)) [] w') ?_
      refine TxtT.one 2 (by as_aux_lemma => kernel_rfl) (by rw [gA]; rfl) (by rfl) (by rfl) (fun v => ∃ g, v = Value.slice (some ⟨g, 0, none⟩) 0 0) (fun v w' => ∃ g2, v = Value.slice (some ⟨g2, 0, none⟩) 0 0 ∧ J7 W7.heap.size (some q) (some (.slice (some ⟨g2, 0, none⟩) 0 0)) [] (some (.slice (some ⟨g6, 0, none⟩) 0 0)) [] w') (fun w1 hS1 hJ1 => ?_) ?_
      · exact Eff.value (w' := w1.alloc (.cells #[] 42)) (v := .slice (some ⟨w1.heap.size, 0, none⟩) 0 0) (by go_simp) ⟨hS1.trans ((newB _ _).mono hS1.size), ⟨_, rfl⟩, _, rfl, hJ1.emp1⟩
      rintro _ ⟨g2, rfl⟩
      rw [show List.erase [2, 5, 9, 10, 12] 2 = [5, 9, 10, 12] from rfl]; simp only [Act.put, pA, pB, pC]
      refine wkG (F := fun g2 w' => J7 W7.heap.size (some q) (some (.slice (some ⟨g2, 0, none⟩) 0 0)) [] (some (.slice (some ⟨g6, 0, none⟩) 0 0)) [] w') ?_
      refine TxtT.one 5 (by as_aux_lemma => kernel_rfl) (by rw [gA]; rfl) (by rfl) (by rfl) (fun v => ∃ A n c, v = Value.slice A n c) (fun v w' => ∃ A5 n5 c5, v = Value.slice A5 n5 c5 ∧ J7 W7.heap.size (some q) (some (.slice A5 n5 c5)) C (some (.slice (some ⟨g6, 0, none⟩) 0 0)) [] w') (fun w1 hS1 hJ1 => ?_) ?_
      · have hz1 := HZ.out.below hS1
        refine eff_appPr (.tmp 49) (.tmp 51) (by rfl) w1 W7.heap.size (.slice (some ⟨g2, 0, none⟩) 0 0) [] B1 C C.length d1 (hJ1.p _ rfl) hz1.rc rfl hz1.nb (by rfl) (by rfl) (by have := hz1.lc; simp; omega) hJ1.sz fun v' w' hown' hb hg => ?_
        rw [List.nil_append] at hown'
        obtain ⟨A5, c5, rfl⟩ := hown'.shape
        exact ⟨hS1.trans hb, ⟨A5, _, c5, rfl⟩, A5, _, c5, rfl, hJ1.app1 hown' hg⟩
      rintro _ ⟨A5, n5, c5, rfl⟩
      rw [show List.erase [5, 9, 10, 12] 5 = [9, 10, 12] from rfl]; simp only [Act.put, pA, pB, pC]
      refine wkS (F := fun A5 n5 c5 w' => J7 W7.heap.size (some q) (some (.slice A5 n5 c5)) C (some (.slice (some ⟨g6, 0, none⟩) 0 0)) [] w') ?_
      refine TxtT.one 9 (by as_aux_lemma => kernel_rfl) (by rw [gA]; rfl) (by rfl) (by rfl) (fun v => ∃ A n c, v = Value.slice A n c) (fun v w' => ∃ A9 n9 c9, v = Value.slice A9 n9 c9 ∧ J7 W7.heap.size (some q) (some (.slice A5 n5 c5)) C (some (.slice A9 n9 c9)) X w') (fun w1 hS1 hJ1 => ?_) ?_
      · have hz1 := HZ.out.below hS1
        refine eff_appTs (.tmp 53) (.tmp 55) (by rfl) w1 W7.heap.size (.slice (some ⟨g6, 0, none⟩) 0 0) [] D1 X O.length e1 (hJ1.t _ rfl) hz1.rx.1.symm hz1.rdd hz1.rx.lits hz1.nd (by rfl) (by rfl) (by have := hz1.lo; have := hz1.rx.1; simp; omega) hJ1.sz fun v' w' hown' hb hg => ?_
        rw [List.nil_append] at hown'
        obtain ⟨A9, n9, c9, rfl, hn9⟩ := hown'.shape
        exact ⟨hS1.trans hb, ⟨A9, _, c9, rfl⟩, A9, _, c9, rfl, hJ1.app2 hown' hg⟩
      rintro _ ⟨A9, n9, c9, rfl⟩
      rw [show List.erase [9, 10, 12] 9 = [10, 12] from rfl]; simp only [Act.put, pA, pB, pC]
      refine wkS (F := fun A9 n9 c9 w' => J7 W7.heap.size (some q) (some (.slice A5 n5 c5)) C (some (.slice A9 n9 c9)) X w') ?_
      refine TxtT.pure 10 (by rfl) (by rw [gA]; rfl) (by rfl) (by as_aux_lemma => kernel_rfl) (by rfl) ?_; apply Exists.intro; refine ⟨fun w1 hS1 => ?_, ?_⟩; (focus (skip; go_simp; with_reducible rfl))
      rw [show List.erase [10, 12] 10 = [12] from rfl]; simp only [Act.put, pA, pB, pC]
      refine TxtT.one 12 (by as_aux_lemma => kernel_rfl) (by rw [gA]; rfl) (by rfl) (by rfl) (fun v => v = undef) (fun _ w' => Blk w' q 28 #[.slice A1 s1.length c1, .slice A5 n5 c5, .slice A9 n9 c9] ∧ OwnP w' W7.heap.size (.slice A5 n5 c5) C ∧ OwnTS w' W7.heap.size (.slice A9 n9 c9) X ∧ W7.heap.size ≤ q) (fun w1 hS1 hJ1 => ?_) ?_
      · obtain ⟨hq1, hk⟩ := hJ1.bx q rfl
        obtain ⟨g0, g1, g2', f1, f2⟩ := hk.threeE
        have f0 := hk.frozen 0
        have hst := hJ1.fin hS1 (.slice A1 s1.length c1)
        exact Eff.skip (w' := ((w1.setCell ⟨q, 0, none⟩ (.slice A1 s1.length c1)).setCell ⟨q, 1, none⟩ (.slice A5 n5 c5)).setCell ⟨q, 2, none⟩ (.slice A9 n9 c9)) (by go_simp) ⟨hst.1, rfl, hst.2⟩
      rintro _ rfl
      rw [show List.erase [12] 12 = [] from rfl]; simp only [Act.put]
      refine ⟨rfl, fun w1 hS1 hJ1 => ?_⟩
      go_wp2_with fail
      go_meet
      exact ⟨q, _, _, rfl, hS1, hJ1.1, hJ1.2.1, hJ1.2.2.1, hJ1.2.2.2⟩
  obtain ⟨gy, v1, v2, rfl, hb7, ky, hoC, hoX, hgy⟩ := hcut
  obtain ⟨W8, hW8⟩ : ∃ W8, W8 = wc := ⟨_, rfl⟩
  subst hW8
  have hs8 := hs7.kept hb7
  have hp8 := hs8.lt
  have kg8 := kg7.below hb7 kg7.lt
  have hgy8 := ky.lt
  clear hs7 kg7
  go_upto_region 8 with fail
  go_cut [15] (fun v wx => ∃ q x y, v = .pointer (some ⟨q, 0, none⟩) ∧ (0 ≤ x ∧ x < 40) ∧ (0 ≤ y ∧ y < 40) ∧ SrcOk wx p ∧ W8.grownBy wx (some p) ∧ W8.heap.size ≤ q ∧ Blk wx q 42 #[.int .i64 x, .int .i64 y])
  case first => as_aux_lemma =>
    refine wp_region_tree [3, 7, 9, 10] (fun w' => SrcOk w' p ∧ W8.grownBy w' (some p)) (fun w' => BxP W8.heap.size none w') 11 [0, 1, 2, 3, 4, 5, 6, 7, 8, 9, 10] (by rfl) (by decide) (by kernel_rfl) (by kernel_rfl) ⟨hs8.kept (Below.refl _ _).drew, grownBy_of_below (Below.refl _ _).drew _⟩ (fun g e => by cases e) ?_
    refine TxtT.pure 0 (by rfl) (by rw [gA]; rfl) (by rfl) (by as_aux_lemma => kernel_rfl) (by rfl) ?_; apply Exists.intro; refine ⟨fun w1 hS1 => ?_, ?_⟩; (focus (skip; go_simp; with_reducible rfl))
    rw [show List.erase [0, 1, 2, 3, 4, 5, 6, 7, 8, 9, 10] 0 = [1, 2, 3, 4, 5, 6, 7, 8, 9, 10] from rfl]; simp only [Act.put, pA, pB, pC]
    refine TxtT.pure 1 (by rfl) (by rw [gA]; rfl) (by rfl) (by as_aux_lemma => kernel_rfl) (by rfl) ?_; apply Exists.intro; refine ⟨fun w1 hS1 => ?_, ?_⟩; (focus (skip; go_simp; with_reducible rfl))
    rw [show List.erase [1, 2, 3, 4, 5, 6, 7, 8, 9, 10] 1 = [2, 3, 4, 5, 6, 7, 8, 9, 10] from rfl]; simp only [Act.put, pA, pB, pC]
    refine TxtT.pure 2 (by rfl) (by rw [gA]; rfl) (by rfl) (by as_aux_lemma => kernel_rfl) (by rfl) ?_; apply Exists.intro; refine ⟨fun w1 hS1 => ?_, ?_⟩; (focus ((obtain ⟨g0, g1, -, -⟩ := (kg8.grown hS1.2 (fun e => by injection e with e; omega)).two); go_simp; with_reducible rfl))
    rw [show List.erase [2, 3, 4, 5, 6, 7, 8, 9, 10] 2 = [3, 4, 5, 6, 7, 8, 9, 10] from rfl]; simp only [Act.put, pA, pB, pC]
    refine TxtT.pure 4 (by rfl) (by rw [gA]; rfl) (by rfl) (by as_aux_lemma => kernel_rfl) (by rfl) ?_; apply Exists.intro; refine ⟨fun w1 hS1 => ?_, ?_⟩; (focus (skip; go_simp; with_reducible rfl))
    rw [show List.erase [3, 4, 5, 6, 7, 8, 9, 10] 4 = [3, 5, 6, 7, 8, 9, 10] from rfl]; simp only [Act.put, pA, pB, pC]
    refine TxtT.pure 5 (by rfl) (by rw [gA]; rfl) (by rfl) (by as_aux_lemma => kernel_rfl) (by rfl) ?_; apply Exists.intro; refine ⟨fun w1 hS1 => ?_, ?_⟩; (focus (skip; go_simp; with_reducible rfl))
    rw [show List.erase [3, 5, 6, 7, 8, 9, 10] 5 = [3, 6, 7, 8, 9, 10] from rfl]; simp only [Act.put, pA, pB, pC]
    refine TxtT.pure 6 (by rfl) (by rw [gA]; rfl) (by rfl) (by as_aux_lemma => kernel_rfl) (by rfl) ?_; apply Exists.intro; refine ⟨fun w1 hS1 => ?_, ?_⟩; (focus ((obtain ⟨g0, g1, -, -⟩ := (kg8.grown hS1.2 (fun e => by injection e with e; omega)).two); go_simp; with_reducible rfl))
    rw [show List.erase [3, 6, 7, 8, 9, 10] 6 = [3, 7, 8, 9, 10] from rfl]; simp only [Act.put, pA, pB, pC]
    refine TxtT.two 3 9 (by as_aux_lemma => kernel_rfl) (by rw [gA]; rfl) (by rw [gA]; rfl) (by rfl) (by rfl) (by rfl) (by rfl) (fun v => ∃ z : Int, (0 ≤ z ∧ z < 40) ∧ v = Value.int .i64 z) (fun _ w' => BxP W8.heap.size none w') (fun v => ∃ q, v = Value.pointer (some ⟨q, 0, none⟩)) (fun v w' => ∃ q, v = Value.pointer (some ⟨q, 0, none⟩) ∧ BxP W8.heap.size (some q) w') (fun w1 hS1 hJ1 => ?_) (fun w1 hS1 hJ1 => ?_) ?_ ?_
    · refine Eff.call (f := 19) (args := #[.pointer (some ⟨p, 0, none⟩), .int .i64 (n : Int)]) (by go_simp) ((n_any p n w1 hS1.1 (by omega) (by omega)).mono ?_)
      rintro e w' ⟨z, rfl, h0, h1, hs, hg⟩
      exact ⟨_, rfl, ⟨hs, grownBy_trans hS1.2 hg⟩, ⟨z, ⟨h0, by omega⟩, rfl⟩, hJ1.read hg hp8⟩
    · exact Eff.value (w' := w1.alloc (.cells #[.int .i64 0, .int .i64 0] 42)) (v := .pointer (some ⟨w1.heap.size, 0, none⟩)) (by go_simp) ⟨⟨hS1.1.kept (newB _ _), grownBy_trans hS1.2 (grownBy_of_below (newB _ _) _)⟩, ⟨_, rfl⟩, _, rfl, BxP.new hS1.2.size⟩
    ·
     rintro _ ⟨x, hx40, rfl⟩
     rw [show List.erase [3, 7, 8, 9, 10] 3 = [7, 8, 9, 10] from rfl]; simp only [Act.put, pA, pB, pC]
     refine TxtT.two 7 9 (by as_aux_lemma => kernel_rfl) (by rw [gA]; rfl) (by rw [gA]; rfl) (by rfl) (by rfl) (by rfl) (by rfl) (fun v => ∃ z : Int, (0 ≤ z ∧ z < 40) ∧ v = Value.int .i64 z) (fun _ w' => BxP W8.heap.size none w') (fun v => ∃ q, v = Value.pointer (some ⟨q, 0, none⟩)) (fun v w' => ∃ q, v = Value.pointer (some ⟨q, 0, none⟩) ∧ BxP W8.heap.size (some q) w') (fun w1 hS1 hJ1 => ?_) (fun w1 hS1 hJ1 => ?_) ?_ ?_
     · refine Eff.call (f := 19) (args := #[.pointer (some ⟨p, 0, none⟩), .int .i64 (n : Int)]) (by go_simp) ((n_any p n w1 hS1.1 (by omega) (by omega)).mono ?_)
       rintro e w' ⟨z, rfl, h0, h1, hs, hg⟩
       exact ⟨_, rfl, ⟨hs, grownBy_trans hS1.2 hg⟩, ⟨z, ⟨h0, by omega⟩, rfl⟩, hJ1.read hg hp8⟩
     · exact Eff.value (w' := w1.alloc (.cells #[.int .i64 0, .int .i64 0] 42)) (v := .pointer (some ⟨w1.heap.size, 0, none⟩)) (by go_simp) ⟨⟨hS1.1.kept (newB _ _), grownBy_trans hS1.2 (grownBy_of_below (newB _ _) _)⟩, ⟨_, rfl⟩, _, rfl, BxP.new hS1.2.size⟩
     ·
      rintro _ ⟨y, hy40, rfl⟩
      rw [show List.erase [7, 8, 9, 10] 7 = [8, 9, 10] from rfl]; simp only [Act.put, pA, pB, pC]
      refine TxtT.pure 8 (by rfl) (by rw [gA]; rfl) (by rfl) (by as_aux_lemma => kernel_rfl) (by rfl) ?_; apply Exists.intro; refine ⟨fun w1 hS1 => ?_, ?_⟩; (focus (skip; go_simp; with_reducible rfl))
      rw [show List.erase [8, 9, 10] 8 = [9, 10] from rfl]; simp only [Act.put, pA, pB, pC]
      refine TxtT.one 9 (by as_aux_lemma => kernel_rfl) (by rw [gA]; rfl) (by rfl) (by rfl) (fun v => ∃ q, v = Value.pointer (some ⟨q, 0, none⟩)) (fun v w' => ∃ q, v = Value.pointer (some ⟨q, 0, none⟩) ∧ BxP W8.heap.size (some q) w') (fun w1 hS1 hJ1 => ?_) ?_
      · exact Eff.value (w' := w1.alloc (.cells #[.int .i64 0, .int .i64 0] 42)) (v := .pointer (some ⟨w1.heap.size, 0, none⟩)) (by go_simp) ⟨⟨hS1.1.kept (newB _ _), grownBy_trans hS1.2 (grownBy_of_below (newB _ _) _)⟩, ⟨_, rfl⟩, _, rfl, BxP.new hS1.2.size⟩
      rintro _ ⟨q, rfl⟩
      rw [show List.erase [9, 10] 9 = [10] from rfl]; simp only [Act.put, pA, pB, pC]
      refine wkP (F := fun q w' => BxP W8.heap.size (some q) w') ?_
      refine TxtT.one 10 (by as_aux_lemma => kernel_rfl) (by rw [gA]; rfl) (by rfl) (by rfl) (fun v => v = undef) (fun _ w' => W8.heap.size ≤ q ∧ Blk w' q 42 #[.int .i64 x, .int .i64 y]) (fun w1 hS1 hJ1 => ?_) ?_
      · obtain ⟨hq1, hk⟩ := hJ1 q rfl
        obtain ⟨g0, g1, f0, f1⟩ := hk.two
        have hst := st8 (x := x) (y := y) hS1.1 hS1.2 hp8 hq1 hk
        exact Eff.skip (w' := (w1.setCell ⟨q, 0, none⟩ (.int .i64 x)).setCell ⟨q, 1, none⟩ (.int .i64 y)) (by go_simp) ⟨hst.1, rfl, hq1, hst.2⟩
      rintro _ rfl
      rw [show List.erase [10] 10 = [] from rfl]; simp only [Act.put]
      refine ⟨rfl, fun w1 hS1 hJ1 => ?_⟩
      go_wp2_with fail
      go_meet
      exact ⟨q, x, y, rfl, hx40, hy40, hS1.1, hS1.2, hJ1.1, hJ1.2⟩
     ·
      rintro _ ⟨q, rfl⟩
      rw [show List.erase [7, 8, 9, 10] 9 = [7, 8, 10] from rfl]; simp only [Act.put, pA, pB, pC]
      refine wkP (F := fun q w' => BxP W8.heap.size (some q) w') ?_
      refine TxtT.one 7 (by as_aux_lemma => kernel_rfl) (by rw [gA]; rfl) (by rfl) (by rfl) (fun v => ∃ z : Int, (0 ≤ z ∧ z < 40) ∧ v = Value.int .i64 z) (fun _ w' => BxP W8.heap.size (some q) w') (fun w1 hS1 hJ1 => ?_) ?_
      · refine Eff.call (f := 19) (args := #[.pointer (some ⟨p, 0, none⟩), .int .i64 (n : Int)]) (by go_simp) ((n_any p n w1 hS1.1 (by omega) (by omega)).mono ?_)
        rintro e w' ⟨z, rfl, h0, h1, hs, hg⟩
        exact ⟨_, rfl, ⟨hs, grownBy_trans hS1.2 hg⟩, ⟨z, ⟨h0, by omega⟩, rfl⟩, hJ1.read hg hp8⟩
      rintro _ ⟨y, hy40, rfl⟩
      rw [show List.erase [7, 8, 10] 7 = [8, 10] from rfl]; simp only [Act.put, pA, pB, pC]
      refine TxtT.pure 8 (by rfl) (by rw [gA]; rfl) (by rfl) (by as_aux_lemma => kernel_rfl) (by rfl) ?_; apply Exists.intro; refine ⟨fun w1 hS1 => ?_, ?_⟩; (focus (skip; go_simp; with_reducible rfl))
      rw [show List.erase [8, 10] 8 = [10] from rfl]; simp only [Act.put, pA, pB, pC]
      refine TxtT.one 10 (by as_aux_lemma => kernel_rfl) (by rw [gA]; rfl) (by rfl) (by rfl) (fun v => v = undef) (fun _ w' => W8.heap.size ≤ q ∧ Blk w' q 42 #[.int .i64 x, .int .i64 y]) (fun w1 hS1 hJ1 => ?_) ?_
      · obtain ⟨hq1, hk⟩ := hJ1 q rfl
        obtain ⟨g0, g1, f0, f1⟩ := hk.two
        have hst := st8 (x := x) (y := y) hS1.1 hS1.2 hp8 hq1 hk
        exact Eff.skip (w' := (w1.setCell ⟨q, 0, none⟩ (.int .i64 x)).setCell ⟨q, 1, none⟩ (.int .i64 y)) (by go_simp) ⟨hst.1, rfl, hq1, hst.2⟩
      rintro _ rfl
      rw [show List.erase [10] 10 = [] from rfl]; simp only [Act.put]
      refine ⟨rfl, fun w1 hS1 hJ1 => ?_⟩
      go_wp2_with fail
      go_meet
      exact ⟨q, x, y, rfl, hx40, hy40, hS1.1, hS1.2, hJ1.1, hJ1.2⟩
    ·
     rintro _ ⟨q, rfl⟩
     rw [show List.erase [3, 7, 8, 9, 10] 9 = [3, 7, 8, 10] from rfl]; simp only [Act.put, pA, pB, pC]
     refine wkP (F := fun q w' => BxP W8.heap.size (some q) w') ?_
     refine TxtT.one 3 (by as_aux_lemma => kernel_rfl) (by rw [gA]; rfl) (by rfl) (by rfl) (fun v => ∃ z : Int, (0 ≤ z ∧ z < 40) ∧ v = Value.int .i64 z) (fun _ w' => BxP W8.heap.size (some q) w') (fun w1 hS1 hJ1 => ?_) ?_
     · refine Eff.call (f := 19) (args := #[.pointer (some ⟨p, 0, none⟩), .int .i64 (n : Int)]) (by go_simp) ((n_any p n w1 hS1.1 (by omega) (by omega)).mono ?_)
       rintro e w' ⟨z, rfl, h0, h1, hs, hg⟩
       exact ⟨_, rfl, ⟨hs, grownBy_trans hS1.2 hg⟩, ⟨z, ⟨h0, by omega⟩, rfl⟩, hJ1.read hg hp8⟩
     rintro _ ⟨x, hx40, rfl⟩
     rw [show List.erase [3, 7, 8, 10] 3 = [7, 8, 10] from rfl]; simp only [Act.put, pA, pB, pC]
     refine TxtT.one 7 (by as_aux_lemma => kernel_rfl) (by rw [gA]; rfl) (by rfl) (by rfl) (fun v => ∃ z : Int, (0 ≤ z ∧ z < 40) ∧ v = Value.int .i64 z) (fun _ w' => BxP W8.heap.size (some q) w') (fun w1 hS1 hJ1 => ?_) ?_
     · refine Eff.call (f := 19) (args := #[.pointer (some ⟨p, 0, none⟩), .int .i64 (n : Int)]) (by go_simp) ((n_any p n w1 hS1.1 (by omega) (by omega)).mono ?_)
       rintro e w' ⟨z, rfl, h0, h1, hs, hg⟩
       exact ⟨_, rfl, ⟨hs, grownBy_trans hS1.2 hg⟩, ⟨z, ⟨h0, by omega⟩, rfl⟩, hJ1.read hg hp8⟩
     rintro _ ⟨y, hy40, rfl⟩
     rw [show List.erase [7, 8, 10] 7 = [8, 10] from rfl]; simp only [Act.put, pA, pB, pC]
     refine TxtT.pure 8 (by rfl) (by rw [gA]; rfl) (by rfl) (by as_aux_lemma => kernel_rfl) (by rfl) ?_; apply Exists.intro; refine ⟨fun w1 hS1 => ?_, ?_⟩; (focus (skip; go_simp; with_reducible rfl))
     rw [show List.erase [8, 10] 8 = [10] from rfl]; simp only [Act.put, pA, pB, pC]
     refine TxtT.one 10 (by as_aux_lemma => kernel_rfl) (by rw [gA]; rfl) (by rfl) (by rfl) (fun v => v = undef) (fun _ w' => W8.heap.size ≤ q ∧ Blk w' q 42 #[.int .i64 x, .int .i64 y]) (fun w1 hS1 hJ1 => ?_) ?_
     · obtain ⟨hq1, hk⟩ := hJ1 q rfl
       obtain ⟨g0, g1, f0, f1⟩ := hk.two
       have hst := st8 (x := x) (y := y) hS1.1 hS1.2 hp8 hq1 hk
       exact Eff.skip (w' := (w1.setCell ⟨q, 0, none⟩ (.int .i64 x)).setCell ⟨q, 1, none⟩ (.int .i64 y)) (by go_simp) ⟨hst.1, rfl, hq1, hst.2⟩
     rintro _ rfl
     rw [show List.erase [10] 10 = [] from rfl]; simp only [Act.put]
     refine ⟨rfl, fun w1 hS1 hJ1 => ?_⟩
     go_wp2_with fail
     go_meet
     exact ⟨q, x, y, rfl, hx40, hy40, hS1.1, hS1.2, hJ1.1, hJ1.2⟩
  obtain ⟨gp, x, y, rfl, hx40, hy40, hs9, hg9, hgp, kp⟩ := hcut
  obtain ⟨W9, hW9⟩ : ∃ W9, W9 = wc := ⟨_, rfl⟩
  subst hW9
  obtain ⟨A2, d2, rfl⟩ := OwnP.shape hoC
  obtain ⟨AO, nO, cO, rfl, hnO⟩ := OwnTS.shape hoX
  obtain rfl : nO = O.length := hnO.trans hxl
  have hY9 : YA p gy gp W5.heap.size A1 s1 c1 (.slice A2 C.length d2) (.slice AO O.length cO) C X O x y W7 W9 :=
    { k := { src := hs9, near := (Near.of_below hb7).trans (Near.of_grown hg9 hb7.size), blk := ky.grown hg9 (fun e => by injection e with e; omega), pr := kp, hp := hp7, hgy := hgy, hgp := Nat.le_trans hb7.size hgp }
      o1 := ownsRow_far hoC hg9 hp7, o2 := ownsRow_far hoX hg9 hp7, rs := HZ.out.rs, la := HZ.out.la, rx := HZ.out.rx, pm := hp5
      n1 := fun e => by have := (World.ownsRow.lt hoC _ e).2; omega
      ls := HZ.out.ls, lc := HZ.out.lc, lo := HZ.out.lo, le := HZ.out.le, ii := HZ.out.ii, ix := by unfold I64; simp; omega }
  have kg9 := kg8.grown hg9 (fun e => by injection e with e; omega)
  clear hoC hoX ky kp hs8 kg8 hgy8 hnO hb7 hgp hg9 hx40 hy40
  go_wp2_with fail
  refine (n_any p 6 W9 hs9 (by omega) (by omega)).mono ?_
  rintro e w10 ⟨d, rfl, hd1, hd2, hs10, hg10⟩
  have hY := hY9.read hs10 hg10
  have kgT := kg9.grown hg10 (fun e => by injection e with e; have := hp7; omega)
  obtain ⟨WT, hWT⟩ : ∃ WT, WT = w10 := ⟨_, rfl⟩
  subst hWT
  clear hY9 kg9 hs9 hg10
  go_upto_block 0 with fail
  go_cut [] (fun wx => YEnd p gy W7 wx)
  case first =>
    obtain ⟨y0, y1, y2, yf1, yf2⟩ := hY.k.blk.threeE
    have yf0 := hY.k.blk.frozen 0
    obtain ⟨q0, q1, -, -⟩ := hY.k.pr.two
    have hsz := hY.k.near.size
    rcases (by omega : d = 0 ∨ d = 1 ∨ d = 2 ∨ d = 3 ∨ d = 4 ∨ d = 5) with rfl | rfl | rfl | rfl | rfl | rfl
    case inl => as_aux_lemma =>
      have hC6 : C.length ≤ 1000000 := by omega
      go_wp2_with (at_builtin; go_loud (refine wpList_appP2 (by rfl) _ _ (by rfl) WT W7.heap.size _ C x y hY.o1 (by rfl) (by rfl) (by rfl) hC6 hsz ?_); intro v' w5 hown5 hb5 hg5; (obtain ⟨A5, c5, rfl⟩ := OwnP.shape hown5); obtain ⟨hbk5, hE5⟩ := hY.fin0 hown5 hg5; rw [show (C ++ [(x, y)]).length = C.length + 1 by simp] at hE5; (obtain ⟨n0, n1, n2, m1, m2⟩ := hbk5.threeE); have HE5 := Lib.hid hE5; clear hown5 hb5 hg5 hE5)
      go_meet
      exact HE5.out
    case inr.inl => as_aux_lemma =>
      by_cases hC0 : C.length = 0
      case pos =>
        have hd0 : decide ((0 : Int) < (C.length : Int)) = false := decide_eq_false (by omega)
        go_wp2_with fail
        go_meet
        exact hY.fin
      case neg =>
        have hd0 : decide ((0 : Int) < (C.length : Int)) = true := decide_eq_true (by omega)
        have Hpos := Lib.hid (show 0 < C.length by omega)
        obtain ⟨gb, rfl, hgb1, hgb2, hgbf⟩ := OwnP.pos hY.o1 Hpos.out
        go_upto_region 15 with fail
        refine wp_region_textZ [6, 9] (fun w' => YA p gy gp W5.heap.size A1 s1 c1 (.slice (some ⟨gb, 0, none⟩) C.length d2) (.slice AO O.length cO) C X O x y W7 w') (fun _ => True) (by kernel_rfl) (by kernel_rfl) (by kernel_rfl) (by kernel_rfl) (hY.low (Below.refl _ _).drew) trivial ?_
        clear y0 y1 y2 yf0 yf1 yf2 q0 q1
        repeat (first
          | (refine TxtZL.skip (by rfl) ?_; simp only [Act.put, pA, pB, pC])
          | (refine TxtZL.take (by rfl) (by rfl) ?_; apply Exists.intro; refine ⟨fun w1 hS1 => ?_, ?_⟩; (focus ((obtain ⟨y0, y1, y2, _, _⟩ := hS1.k.blk.threeE; obtain ⟨q0, q1, -, -⟩ := hS1.k.pr.two); go_simp; with_reducible rfl)); simp only [Act.put, pA, pB, pC])
          | (refine TxtZL.takeE' (by rfl) (by rfl) ?_; apply Exists.intro; refine ⟨fun w1 hS1 => ?_, ?_⟩; (focus ((obtain ⟨y0, y1, y2, _, _⟩ := hS1.k.blk.threeE; obtain ⟨q0, q1, -, -⟩ := hS1.k.pr.two); go_simp; with_reducible rfl)); simp only [Act.put, pA, pB, pC]))
        refine TxtZL.call (f := 19) (args := #[.pointer (some ⟨p, 0, none⟩), .int .i64 (C.length : Int)]) (fun v => ∃ i : Nat, i < C.length ∧ v = Value.int .i64 (i : Int)) (fun _ _ => True) (by rfl) (by rfl) ⟨_, 0, Hpos.out, rfl⟩ (fun w1 hS1 hJ1 => by go_simp) (fun w1 hS1 hJ1 => ?_) ?_
        · refine (n_any p (C.length : Int) w1 hS1.k.src (by have := Hpos.out; omega) (by omega)).mono ?_
          rintro e w' ⟨v, rfl, h0, h1, hs, hg⟩
          exact ⟨_, rfl, hS1.read hs hg, ⟨v.toNat, by omega, by rw [Int.toNat_of_nonneg h0]⟩, trivial⟩
        rintro _ ⟨i, hi, rfl⟩
        have hi0 : (0 : Int) ≤ (i : Int) := by omega
        have hil : (i : Int) < (C.length : Int) := by omega
        simp only [Act.put, pA, pB, pC]
        repeat (first
          | (refine TxtZL.skip (by rfl) ?_; simp only [Act.put, pA, pB, pC])
          | (refine TxtZL.take (by rfl) (by rfl) ?_; apply Exists.intro; refine ⟨fun w1 hS1 => ?_, ?_⟩; (focus ((obtain ⟨y0, y1, y2, _, _⟩ := hS1.k.blk.threeE; obtain ⟨q0, q1, -, -⟩ := hS1.k.pr.two); go_simp; with_reducible rfl)); simp only [Act.put, pA, pB, pC])
          | (refine TxtZL.takeE' (by rfl) (by rfl) ?_; apply Exists.intro; refine ⟨fun w1 hS1 => ?_, ?_⟩; (focus ((obtain ⟨y0, y1, y2, _, _⟩ := hS1.k.blk.threeE; obtain ⟨q0, q1, -, -⟩ := hS1.k.pr.two); go_simp; with_reducible rfl)); simp only [Act.put, pA, pB, pC]))
        refine TxtZL.last (fun w' => YEnd p gy W7 w') (by rfl) (by rfl) (fun w1 hS1 hJ1 => ?_) ?_
        · obtain ⟨gb', hgb', _, _, hkf⟩ := OwnP.pos hS1.o1 Hpos.out
          obtain rfl := addr_inj hgb'
          have f0 := hkf (i * 2)
          have f1 := hkf (i * 2 + 1)
          obtain ⟨q0, q1⟩ := hS1.o1.cells2 (k := i) hi
          have HE := Lib.hid (hS1.fin1 (i := i))
          clear hS1
          exact Eff.skip (w' := (w1.setCell ⟨gb, i * 2, none⟩ (.int .i64 x)).setCell ⟨gb, i * 2 + 1, none⟩ (.int .i64 y)) (by go_simp) HE.out
        rintro v0 w1 hE
        go_wp2_with fail
        go_meet
        exact hE
    case inr.inr.inl => as_aux_lemma =>
      obtain ⟨WU, hWU, hone, hbU, hsU⟩ : ∃ WU, WT.alloc (.cells #[.int .i64 x, .int .i64 y] 42) = WU ∧ OwnP WU W7.heap.size (.slice (some ⟨WT.heap.size, 0, none⟩) 1 1) [(x, y)] ∧ Below WT.heap.size WT WU ∧ WU.heap.size = WT.heap.size + 1 :=
        ⟨_, rfl, own_oneP WT (x, y) _ hsz, newB _ _, by simp⟩
      have hYU := hY.low hbU
      have hX6 : X.length ≤ 1000000 := by omega
      have hszU := hYU.k.near.size
      clear hbU
      go_wp2_with (at_builtin; go_loud (refine wpList_appT (by rfl) _ _ (by rfl) WU W7.heap.size _ X (some ⟨WT.heap.size, 0, none⟩) 1 1 hYU.o2 (by rfl) (by rfl) (by omega) hX6 hszU ?_); intro v' w5 hown5 hb5 hg5; (obtain ⟨A5, n5, c5, rfl, -⟩ := OwnTS.shape hown5); obtain ⟨hbk5, hE5⟩ := hYU.fin2 hone hown5 hg5; (obtain ⟨n0, n1, n2, m1, m2⟩ := hbk5.threeE); have HE5 := Lib.hid hE5; clear hown5 hb5 hg5 hE5)
      go_meet
      exact HE5.out
    case inr.inr.inr.inl => as_aux_lemma =>
      by_cases hC0 : O.length = 0
      case pos =>
        have hd0 : decide ((0 : Int) < (O.length : Int)) = false := decide_eq_false (by omega)
        go_wp2_with fail
        go_meet
        exact hY.fin
      case neg =>
      have hd0 : decide ((0 : Int) < (O.length : Int)) = true := decide_eq_true (by omega)
      have hpos : 0 < O.length := by omega
      obtain ⟨gc, rfl, -, hgc1, -, -, -⟩ := OwnTS.pos hY.o2 (by omega)
      go_wp2_with fail
      refine (n_any p (O.length : Int) WT hY.k.src (by omega) (by omega)).mono ?_
      rintro e w11 ⟨iz, rfl, hi0, hi1, hs11, hg11⟩
      obtain ⟨i, rfl⟩ := Int.eq_ofNat_of_zero_le hi0
      have hil : (i : Int) < (O.length : Int) := by omega
      have hio : i < O.length := by omega
      have hYR := hY.read hs11 hg11
      obtain ⟨WR, hWR⟩ : ∃ WR, WR = w11 := ⟨_, rfl⟩
      subst hWR
      clear hs11 hg11 y0 y1 y2 yf0 yf1 yf2 q0 q1 hY hd0
      have hgygc : gy ≠ gc := fun e => own_apart hYR.o2 hYR.k.blk (by decide) (by rw [e]; rfl)
      have hgpgc : gp ≠ gc := fun e => own_apart hYR.o2 hYR.k.pr (by decide) (by rw [e]; rfl)
      have hyk := hYR.k.blk
      have hpk := hYR.k.pr
      obtain ⟨gc', hgc', -, hgc2, hgc3, hgc4, hgc5⟩ := OwnTS.pos hYR.o2 (by omega)
      obtain rfl := addr_inj hgc'
      obtain ⟨bi, oi, ci, hxi, hri, hbi, hli0, hlic⟩ := hYR.rx.2 i hio
      have hrli := hri.grown hYR.k.near.grown (fun b o e => by injection e with e; injection e with e; omega)
      have hci := hgc5 i _ hxi
      have hlile := hYR.le _ (List.getElem_mem hio)
      have hlii := hYR.ii _ (List.getElem_mem hio)
      obtain ⟨li, hlie⟩ : ∃ li, O[i] = li := ⟨_, rfl⟩
      rw [hlie] at hci hrli hlile hlii hli0 hlic
      have Hli : RowKit.Hid (li ≠ []) := Lib.hid (List.length_pos_iff.1 hli0)
      have Hfin := Lib.hid (fun (w1 : World) (A12 : Option Addr) (n12 c12 : Nat) (hb : Below WR.heap.size WR w1) (ho : OwnP w1 WR.heap.size (.slice A12 n12 c12) (li ++ [(x, y)])) => show YEnd p gy W7 (w1.setCell ⟨gc, i, none⟩ (.slice A12 n12 c12)) by
        have hln := ho.len
        subst hln
        exact (hYR.low hb).fin3 (OwnP.rpr ho) (fun b o e => by subst e; have := (World.ownsRow.lt ho b rfl).1; omega) (by rw [List.length_append]; simp; omega) (all_snoc hlii hYR.ix))
      have Hst := Lib.hid (fun (w1 : World) (hb : Below WR.heap.size WR w1) => show w1.frozen? ⟨gc, i, none⟩ = false ∧ w1.cell? ⟨gc, i, none⟩ = some (.slice (some ⟨bi, oi, none⟩) li.length ci) from by
        obtain ⟨_, h1, _, _, _, h5, _⟩ := OwnTS.pos (ownsRow_below hYR.o2 hb) (by omega)
        obtain rfl := addr_inj h1
        exact ⟨h5 i, (hb.cell (lt_of_cell hci)).trans hci⟩)
      clear hgc4 hgc5 hxi hri hYR hlie hlii
      go_upto_region 21 with fail
      refine wp_region_tree [3, 8, 9, 11, 12, 14] (fun w' => WR.grownBy w' (some gc)) (fun w' => J21 WR none [] none (x, y) w') 15 [0, 1, 2, 3, 4, 5, 6, 7, 8, 9, 10, 11, 12, 13, 14] (by rfl) (by decide) (by kernel_rfl) (by kernel_rfl) (grownBy_of_below (Below.refl _ _).drew _) ((J21.start WR (x, y)).low (Below.refl _ _).drew) ?_
      refine TxtT.pure 0 (by rfl) (by rw [gA]; rfl) (by rfl) (by as_aux_lemma => kernel_rfl) (by rfl) ?_; apply Exists.intro; refine ⟨fun w1 hS1 => ?_, ?_⟩; (focus (skip; go_simp; with_reducible rfl))
      rw [show List.erase [0, 1, 2, 3, 4, 5, 6, 7, 8, 9, 10, 11, 12, 13, 14] 0 = [1, 2, 3, 4, 5, 6, 7, 8, 9, 10, 11, 12, 13, 14] from rfl]; simp only [Act.put, pA, pB, pC]
      refine TxtT.pure 1 (by rfl) (by rw [gA]; rfl) (by rfl) (by as_aux_lemma => kernel_rfl) (by rfl) ?_; apply Exists.intro; refine ⟨fun w1 hS1 => ?_, ?_⟩; (focus ((obtain ⟨g0, g1, g2', _, _⟩ := (hyk.grown hS1 (fun e => by injection e with e; omega)).threeE); go_simp; with_reducible rfl))
      rw [show List.erase [1, 2, 3, 4, 5, 6, 7, 8, 9, 10, 11, 12, 13, 14] 1 = [2, 3, 4, 5, 6, 7, 8, 9, 10, 11, 12, 13, 14] from rfl]; simp only [Act.put, pA, pB, pC]
      refine TxtT.pure 2 (by rfl) (by rw [gA]; rfl) (by rfl) (by as_aux_lemma => kernel_rfl) (by rfl) ?_; apply Exists.intro; refine ⟨fun w1 hS1 => ?_, ?_⟩; (focus (skip; go_simp; with_reducible rfl))
      rw [show List.erase [2, 3, 4, 5, 6, 7, 8, 9, 10, 11, 12, 13, 14] 2 = [3, 4, 5, 6, 7, 8, 9, 10, 11, 12, 13, 14] from rfl]; simp only [Act.put, pA, pB, pC]
      refine TxtT.pure 4 (by rfl) (by rw [gA]; rfl) (by rfl) (by as_aux_lemma => kernel_rfl) (by rfl) ?_; apply Exists.intro; refine ⟨fun w1 hS1 => ?_, ?_⟩; (focus (skip; go_simp; with_reducible rfl))
      rw [show List.erase [3, 4, 5, 6, 7, 8, 9, 10, 11, 12, 13, 14] 4 = [3, 5, 6, 7, 8, 9, 10, 11, 12, 13, 14] from rfl]; simp only [Act.put, pA, pB, pC]
      refine TxtT.pure 5 (by rfl) (by rw [gA]; rfl) (by rfl) (by as_aux_lemma => kernel_rfl) (by rfl) ?_; apply Exists.intro; refine ⟨fun w1 hS1 => ?_, ?_⟩; (focus ((obtain ⟨g0, g1, g2', _, _⟩ := (hyk.grown hS1 (fun e => by injection e with e; omega)).threeE); go_simp; with_reducible rfl))
      rw [show List.erase [3, 5, 6, 7, 8, 9, 10, 11, 12, 13, 14] 5 = [3, 6, 7, 8, 9, 10, 11, 12, 13, 14] from rfl]; simp only [Act.put, pA, pB, pC]
      refine TxtT.pure 6 (by rfl) (by rw [gA]; rfl) (by rfl) (by as_aux_lemma => kernel_rfl) (by rfl) ?_; apply Exists.intro; refine ⟨fun w1 hS1 => ?_, ?_⟩; (focus (skip; go_simp; with_reducible rfl))
      rw [show List.erase [3, 6, 7, 8, 9, 10, 11, 12, 13, 14] 6 = [3, 7, 8, 9, 10, 11, 12, 13, 14] from rfl]; simp only [Act.put, pA, pB, pC]
      refine TxtT.pure 7 (by rfl) (by rw [gA]; rfl) (by rfl) (by as_aux_lemma => kernel_rfl) (by rfl) ?_; apply Exists.intro; refine ⟨fun w1 hS1 => ?_, ?_⟩; (focus (skip; go_simp; with_reducible rfl))
      rw [show List.erase [3, 7, 8, 9, 10, 11, 12, 13, 14] 7 = [3, 8, 9, 10, 11, 12, 13, 14] from rfl]; simp only [Act.put, pA, pB, pC]
      refine TxtT.pure 10 (by rfl) (by rw [gA]; rfl) (by rfl) (by as_aux_lemma => kernel_rfl) (by rfl) ?_; apply Exists.intro; refine ⟨fun w1 hS1 => ?_, ?_⟩; (focus ((obtain ⟨g0, g1, -, -⟩ := (hpk.grown hS1 (fun e => by injection e with e; omega)).two); go_simp; with_reducible rfl))
      rw [show List.erase [3, 8, 9, 10, 11, 12, 13, 14] 10 = [3, 8, 9, 11, 12, 13, 14] from rfl]; simp only [Act.put, pA, pB, pC]
      refine TxtT.three 3 8 11 (by as_aux_lemma => kernel_rfl) (by rw [gA]; rfl) (by rw [gA]; rfl) (by rw [gA]; rfl) (by rfl) (by rfl) (by rfl) (by rfl) (by rfl) (by rfl) (fun v => ∃ g, v = Value.slice (some ⟨g, 0, none⟩) 0 0) (fun v w' => ∃ g3, v = Value.slice (some ⟨g3, 0, none⟩) 0 0 ∧ J21 WR (some (.slice (some ⟨g3, 0, none⟩) 0 0)) [] none (x, y) w') (fun v => v = (Value.slice (some ⟨bi, oi, none⟩) li.length ci)) (fun _ w' => J21 WR none [] none (x, y) w') (fun v => ∃ g, v = Value.slice (some ⟨g, 0, none⟩) 1 1) (fun v w' => ∃ g11, v = Value.slice (some ⟨g11, 0, none⟩) 1 1 ∧ J21 WR none [] (some g11) (x, y) w') (fun w1 hS1 hJ1 => ?_) (fun w1 hS1 hJ1 => ?_) (fun w1 hS1 hJ1 => ?_) ?_ ?_ ?_
      · exact Eff.value (w' := w1.alloc (.cells #[] 42)) (v := .slice (some ⟨w1.heap.size, 0, none⟩) 0 0) (by go_simp) ⟨grownBy_trans hS1 (grownBy_of_below (newB _ _) _), ⟨_, rfl⟩, _, rfl, hJ1.emp⟩
      · have hc8 : w1.cell? ⟨gc, i, none⟩ = some (Value.slice (some ⟨bi, oi, none⟩) li.length ci) := (hJ1.bel.cell (lt_of_cell hci)).trans hci
        exact Eff.value (w' := w1) (v := (Value.slice (some ⟨bi, oi, none⟩) li.length ci)) (by go_simp) ⟨hS1, rfl, hJ1⟩
      · exact Eff.value (w' := w1.alloc (.cells #[.int .i64 x, .int .i64 y] 42)) (v := .slice (some ⟨w1.heap.size, 0, none⟩) 1 1) (by go_simp) ⟨grownBy_trans hS1 (grownBy_of_below (newB _ _) _), ⟨_, rfl⟩, _, rfl, hJ1.one⟩
      · as_aux_lemma =>
       rintro _ ⟨g3, rfl⟩
       rw [show List.erase [3, 8, 9, 11, 12, 13, 14] 3 = [8, 9, 11, 12, 13, 14] from rfl]; simp only [Act.put, pA, pB, pC]
       refine wkG (F := fun g3 w' => J21 WR (some (.slice (some ⟨g3, 0, none⟩) 0 0)) [] none (x, y) w') ?_
       refine TxtT.two 8 11 (by as_aux_lemma => kernel_rfl) (by rw [gA]; rfl) (by rw [gA]; rfl) (by rfl) (by rfl) (by rfl) (by rfl) (fun v => v = (Value.slice (some ⟨bi, oi, none⟩) li.length ci)) (fun _ w' => J21 WR (some (.slice (some ⟨g3, 0, none⟩) 0 0)) [] none (x, y) w') (fun v => ∃ g, v = Value.slice (some ⟨g, 0, none⟩) 1 1) (fun v w' => ∃ g11, v = Value.slice (some ⟨g11, 0, none⟩) 1 1 ∧ J21 WR (some (.slice (some ⟨g3, 0, none⟩) 0 0)) [] (some g11) (x, y) w') (fun w1 hS1 hJ1 => ?_) (fun w1 hS1 hJ1 => ?_) ?_ ?_
       · have hc8 : w1.cell? ⟨gc, i, none⟩ = some (Value.slice (some ⟨bi, oi, none⟩) li.length ci) := (hJ1.bel.cell (lt_of_cell hci)).trans hci
         exact Eff.value (w' := w1) (v := (Value.slice (some ⟨bi, oi, none⟩) li.length ci)) (by go_simp) ⟨hS1, rfl, hJ1⟩
       · exact Eff.value (w' := w1.alloc (.cells #[.int .i64 x, .int .i64 y] 42)) (v := .slice (some ⟨w1.heap.size, 0, none⟩) 1 1) (by go_simp) ⟨grownBy_trans hS1 (grownBy_of_below (newB _ _) _), ⟨_, rfl⟩, _, rfl, hJ1.one⟩
       · as_aux_lemma =>
        rintro _ rfl
        rw [show List.erase [8, 9, 11, 12, 13, 14] 8 = [9, 11, 12, 13, 14] from rfl]; simp only [Act.put, pA, pB, pC]
        refine TxtT.two 9 11 (by as_aux_lemma => kernel_rfl) (by rw [gA]; rfl) (by rw [gA]; rfl) (by rfl) (by rfl) (by rfl) (by rfl) (fun v => ∃ A n c, v = Value.slice A n c) (fun v w' => ∃ A9 n9 c9, v = Value.slice A9 n9 c9 ∧ J21 WR (some (.slice A9 n9 c9)) li none (x, y) w') (fun v => ∃ g, v = Value.slice (some ⟨g, 0, none⟩) 1 1) (fun v w' => ∃ g11, v = Value.slice (some ⟨g11, 0, none⟩) 1 1 ∧ J21 WR (some (.slice (some ⟨g3, 0, none⟩) 0 0)) [] (some g11) (x, y) w') (fun w1 hS1 hJ1 => ?_) (fun w1 hS1 hJ1 => ?_) ?_ ?_
        · refine eff_appPr (.tmp 120) (.tmp 125) (by rfl) w1 WR.heap.size (.slice (some ⟨g3, 0, none⟩) 0 0) [] (some ⟨bi, oi, none⟩) li li.length ci (hJ1.p _ rfl) (hrli.below hJ1.bel) rfl (fun e => by cases e) (by rfl) (by rfl) (by simp; omega) hJ1.bel.size fun v' w' hown' hb hg => ?_
          rw [List.nil_append] at hown'
          obtain ⟨A9, c9, rfl⟩ := hown'.shape
          exact ⟨grownBy_of_below (hJ1.bel.trans hb) _, ⟨A9, _, c9, rfl⟩, A9, _, c9, rfl, hJ1.app hown' hb hg Hli.out⟩
        · exact Eff.value (w' := w1.alloc (.cells #[.int .i64 x, .int .i64 y] 42)) (v := .slice (some ⟨w1.heap.size, 0, none⟩) 1 1) (by go_simp) ⟨grownBy_trans hS1 (grownBy_of_below (newB _ _) _), ⟨_, rfl⟩, _, rfl, hJ1.one⟩
        · as_aux_lemma =>
         rintro _ ⟨A9, n9, c9, rfl⟩
         rw [show List.erase [9, 11, 12, 13, 14] 9 = [11, 12, 13, 14] from rfl]; simp only [Act.put, pA, pB, pC]
         refine wkS (F := fun A9 n9 c9 w' => J21 WR (some (.slice A9 n9 c9)) li none (x, y) w') ?_
         refine TxtT.one 11 (by as_aux_lemma => kernel_rfl) (by rw [gA]; rfl) (by rfl) (by rfl) (fun v => ∃ g, v = Value.slice (some ⟨g, 0, none⟩) 1 1) (fun v w' => ∃ g11, v = Value.slice (some ⟨g11, 0, none⟩) 1 1 ∧ J21 WR (some (.slice A9 n9 c9)) li (some g11) (x, y) w') (fun w1 hS1 hJ1 => ?_) ?_
         · exact Eff.value (w' := w1.alloc (.cells #[.int .i64 x, .int .i64 y] 42)) (v := .slice (some ⟨w1.heap.size, 0, none⟩) 1 1) (by go_simp) ⟨grownBy_trans hS1 (grownBy_of_below (newB _ _) _), ⟨_, rfl⟩, _, rfl, hJ1.one⟩
         rintro _ ⟨g11, rfl⟩
         rw [show List.erase [11, 12, 13, 14] 11 = [12, 13, 14] from rfl]; simp only [Act.put, pA, pB, pC]
         refine wkG (F := fun g11 w' => J21 WR (some (.slice A9 n9 c9)) li (some g11) (x, y) w') ?_
         refine TxtT.one 12 (by as_aux_lemma => kernel_rfl) (by rw [gA]; rfl) (by rfl) (by rfl) (fun v => ∃ A n c, v = Value.slice A n c) (fun v w' => ∃ A12 n12 c12, v = Value.slice A12 n12 c12 ∧ J21e WR (.slice A12 n12 c12) (li ++ [(x, y)]) w') (fun w1 hS1 hJ1 => ?_) ?_
         · refine eff_appPr (.tmp 126) (.tmp 128) (by rfl) w1 WR.heap.size (.slice A9 n9 c9) li (some ⟨g11, 0, none⟩) [(x, y)] 1 1 (hJ1.p _ rfl) (OwnP.rpr (hJ1.e _ rfl)) rfl (fun e => by cases e) (by rfl) (by rfl) (by simp; omega) hJ1.bel.size fun v' w' hown' hb hg => ?_
           obtain ⟨A12, c12, rfl⟩ := hown'.shape
           exact ⟨grownBy_of_below (hJ1.bel.trans hb) _, ⟨A12, _, c12, rfl⟩, A12, _, c12, rfl, hJ1.bel.trans hb, hown'⟩
         rintro _ ⟨A12, n12, c12, rfl⟩
         rw [show List.erase [12, 13, 14] 12 = [13, 14] from rfl]; simp only [Act.put, pA, pB, pC]
         refine wkS (F := fun A12 n12 c12 w' => J21e WR (.slice A12 n12 c12) (li ++ [(x, y)]) w') ?_
         refine TxtT.pure 13 (by rfl) (by rw [gA]; rfl) (by rfl) (by as_aux_lemma => kernel_rfl) (by rfl) ?_; apply Exists.intro; refine ⟨fun w1 hS1 => ?_, ?_⟩; (focus (skip; go_simp; with_reducible rfl))
         rw [show List.erase [13, 14] 13 = [14] from rfl]; simp only [Act.put, pA, pB, pC]
         refine TxtT.one 14 (by as_aux_lemma => kernel_rfl) (by rw [gA]; rfl) (by rfl) (by rfl) (fun v => v = undef) (fun _ w' => YEnd p gy W7 w') (fun w1 hS1 hJ1 => ?_) ?_
         · obtain ⟨hbel, hown⟩ := hJ1
           obtain ⟨hfz, hcz⟩ := Hst.out w1 hbel
           have HY := Hfin.out w1 A12 n12 c12 hbel hown
           exact Eff.skip (w' := w1.setCell ⟨gc, i, none⟩ (.slice A12 n12 c12)) (by go_simp) ⟨grownBy_trans hS1 (grownBy_setCell w1 gc i _), rfl, HY⟩
         rintro _ rfl
         rw [show List.erase [14] 14 = [] from rfl]; simp only [Act.put]
         refine ⟨rfl, fun w1 hS1 hJ1 => ?_⟩
         go_wp2_with fail
         go_meet
         exact hJ1
        · as_aux_lemma =>
         rintro _ ⟨g11, rfl⟩
         rw [show List.erase [9, 11, 12, 13, 14] 11 = [9, 12, 13, 14] from rfl]; simp only [Act.put, pA, pB, pC]
         refine wkG (F := fun g11 w' => J21 WR (some (.slice (some ⟨g3, 0, none⟩) 0 0)) [] (some g11) (x, y) w') ?_
         refine TxtT.one 9 (by as_aux_lemma => kernel_rfl) (by rw [gA]; rfl) (by rfl) (by rfl) (fun v => ∃ A n c, v = Value.slice A n c) (fun v w' => ∃ A9 n9 c9, v = Value.slice A9 n9 c9 ∧ J21 WR (some (.slice A9 n9 c9)) li (some g11) (x, y) w') (fun w1 hS1 hJ1 => ?_) ?_
         · refine eff_appPr (.tmp 120) (.tmp 125) (by rfl) w1 WR.heap.size (.slice (some ⟨g3, 0, none⟩) 0 0) [] (some ⟨bi, oi, none⟩) li li.length ci (hJ1.p _ rfl) (hrli.below hJ1.bel) rfl (fun e => by cases e) (by rfl) (by rfl) (by simp; omega) hJ1.bel.size fun v' w' hown' hb hg => ?_
           rw [List.nil_append] at hown'
           obtain ⟨A9, c9, rfl⟩ := hown'.shape
           exact ⟨grownBy_of_below (hJ1.bel.trans hb) _, ⟨A9, _, c9, rfl⟩, A9, _, c9, rfl, hJ1.app hown' hb hg Hli.out⟩
         rintro _ ⟨A9, n9, c9, rfl⟩
         rw [show List.erase [9, 12, 13, 14] 9 = [12, 13, 14] from rfl]; simp only [Act.put, pA, pB, pC]
         refine wkS (F := fun A9 n9 c9 w' => J21 WR (some (.slice A9 n9 c9)) li (some g11) (x, y) w') ?_
         refine TxtT.one 12 (by as_aux_lemma => kernel_rfl) (by rw [gA]; rfl) (by rfl) (by rfl) (fun v => ∃ A n c, v = Value.slice A n c) (fun v w' => ∃ A12 n12 c12, v = Value.slice A12 n12 c12 ∧ J21e WR (.slice A12 n12 c12) (li ++ [(x, y)]) w') (fun w1 hS1 hJ1 => ?_) ?_
         · refine eff_appPr (.tmp 126) (.tmp 128) (by rfl) w1 WR.heap.size (.slice A9 n9 c9) li (some ⟨g11, 0, none⟩) [(x, y)] 1 1 (hJ1.p _ rfl) (OwnP.rpr (hJ1.e _ rfl)) rfl (fun e => by cases e) (by rfl) (by rfl) (by simp; omega) hJ1.bel.size fun v' w' hown' hb hg => ?_
           obtain ⟨A12, c12, rfl⟩ := hown'.shape
           exact ⟨grownBy_of_below (hJ1.bel.trans hb) _, ⟨A12, _, c12, rfl⟩, A12, _, c12, rfl, hJ1.bel.trans hb, hown'⟩
         rintro _ ⟨A12, n12, c12, rfl⟩
         rw [show List.erase [12, 13, 14] 12 = [13, 14] from rfl]; simp only [Act.put, pA, pB, pC]
         refine wkS (F := fun A12 n12 c12 w' => J21e WR (.slice A12 n12 c12) (li ++ [(x, y)]) w') ?_
         refine TxtT.pure 13 (by rfl) (by rw [gA]; rfl) (by rfl) (by as_aux_lemma => kernel_rfl) (by rfl) ?_; apply Exists.intro; refine ⟨fun w1 hS1 => ?_, ?_⟩; (focus (skip; go_simp; with_reducible rfl))
         rw [show List.erase [13, 14] 13 = [14] from rfl]; simp only [Act.put, pA, pB, pC]
         refine TxtT.one 14 (by as_aux_lemma => kernel_rfl) (by rw [gA]; rfl) (by rfl) (by rfl) (fun v => v = undef) (fun _ w' => YEnd p gy W7 w') (fun w1 hS1 hJ1 => ?_) ?_
         · obtain ⟨hbel, hown⟩ := hJ1
           obtain ⟨hfz, hcz⟩ := Hst.out w1 hbel
           have HY := Hfin.out w1 A12 n12 c12 hbel hown
           exact Eff.skip (w' := w1.setCell ⟨gc, i, none⟩ (.slice A12 n12 c12)) (by go_simp) ⟨grownBy_trans hS1 (grownBy_setCell w1 gc i _), rfl, HY⟩
         rintro _ rfl
         rw [show List.erase [14] 14 = [] from rfl]; simp only [Act.put]
         refine ⟨rfl, fun w1 hS1 hJ1 => ?_⟩
         go_wp2_with fail
         go_meet
         exact hJ1
       · as_aux_lemma =>
        rintro _ ⟨g11, rfl⟩
        rw [show List.erase [8, 9, 11, 12, 13, 14] 11 = [8, 9, 12, 13, 14] from rfl]; simp only [Act.put, pA, pB, pC]
        refine wkG (F := fun g11 w' => J21 WR (some (.slice (some ⟨g3, 0, none⟩) 0 0)) [] (some g11) (x, y) w') ?_
        refine TxtT.one 8 (by as_aux_lemma => kernel_rfl) (by rw [gA]; rfl) (by rfl) (by rfl) (fun v => v = (Value.slice (some ⟨bi, oi, none⟩) li.length ci)) (fun _ w' => J21 WR (some (.slice (some ⟨g3, 0, none⟩) 0 0)) [] (some g11) (x, y) w') (fun w1 hS1 hJ1 => ?_) ?_
        · have hc8 : w1.cell? ⟨gc, i, none⟩ = some (Value.slice (some ⟨bi, oi, none⟩) li.length ci) := (hJ1.bel.cell (lt_of_cell hci)).trans hci
          exact Eff.value (w' := w1) (v := (Value.slice (some ⟨bi, oi, none⟩) li.length ci)) (by go_simp) ⟨hS1, rfl, hJ1⟩
        rintro _ rfl
        rw [show List.erase [8, 9, 12, 13, 14] 8 = [9, 12, 13, 14] from rfl]; simp only [Act.put, pA, pB, pC]
        refine TxtT.one 9 (by as_aux_lemma => kernel_rfl) (by rw [gA]; rfl) (by rfl) (by rfl) (fun v => ∃ A n c, v = Value.slice A n c) (fun v w' => ∃ A9 n9 c9, v = Value.slice A9 n9 c9 ∧ J21 WR (some (.slice A9 n9 c9)) li (some g11) (x, y) w') (fun w1 hS1 hJ1 => ?_) ?_
        · refine eff_appPr (.tmp 120) (.tmp 125) (by rfl) w1 WR.heap.size (.slice (some ⟨g3, 0, none⟩) 0 0) [] (some ⟨bi, oi, none⟩) li li.length ci (hJ1.p _ rfl) (hrli.below hJ1.bel) rfl (fun e => by cases e) (by rfl) (by rfl) (by simp; omega) hJ1.bel.size fun v' w' hown' hb hg => ?_
          rw [List.nil_append] at hown'
          obtain ⟨A9, c9, rfl⟩ := hown'.shape
          exact ⟨grownBy_of_below (hJ1.bel.trans hb) _, ⟨A9, _, c9, rfl⟩, A9, _, c9, rfl, hJ1.app hown' hb hg Hli.out⟩
        rintro _ ⟨A9, n9, c9, rfl⟩
        rw [show List.erase [9, 12, 13, 14] 9 = [12, 13, 14] from rfl]; simp only [Act.put, pA, pB, pC]
        refine wkS (F := fun A9 n9 c9 w' => J21 WR (some (.slice A9 n9 c9)) li (some g11) (x, y) w') ?_
        refine TxtT.one 12 (by as_aux_lemma => kernel_rfl) (by rw [gA]; rfl) (by rfl) (by rfl) (fun v => ∃ A n c, v = Value.slice A n c) (fun v w' => ∃ A12 n12 c12, v = Value.slice A12 n12 c12 ∧ J21e WR (.slice A12 n12 c12) (li ++ [(x, y)]) w') (fun w1 hS1 hJ1 => ?_) ?_
        · refine eff_appPr (.tmp 126) (.tmp 128) (by rfl) w1 WR.heap.size (.slice A9 n9 c9) li (some ⟨g11, 0, none⟩) [(x, y)] 1 1 (hJ1.p _ rfl) (OwnP.rpr (hJ1.e _ rfl)) rfl (fun e => by cases e) (by rfl) (by rfl) (by simp; omega) hJ1.bel.size fun v' w' hown' hb hg => ?_
          obtain ⟨A12, c12, rfl⟩ := hown'.shape
          exact ⟨grownBy_of_below (hJ1.bel.trans hb) _, ⟨A12, _, c12, rfl⟩, A12, _, c12, rfl, hJ1.bel.trans hb, hown'⟩
        rintro _ ⟨A12, n12, c12, rfl⟩
        rw [show List.erase [12, 13, 14] 12 = [13, 14] from rfl]; simp only [Act.put, pA, pB, pC]
        refine wkS (F := fun A12 n12 c12 w' => J21e WR (.slice A12 n12 c12) (li ++ [(x, y)]) w') ?_
        refine TxtT.pure 13 (by rfl) (by rw [gA]; rfl) (by rfl) (by as_aux_lemma => kernel_rfl) (by rfl) ?_; apply Exists.intro; refine ⟨fun w1 hS1 => ?_, ?_⟩; (focus (skip; go_simp; with_reducible rfl))
        rw [show List.erase [13, 14] 13 = [14] from rfl]; simp only [Act.put, pA, pB, pC]
        refine TxtT.one 14 (by as_aux_lemma => kernel_rfl) (by rw [gA]; rfl) (by rfl) (by rfl) (fun v => v = undef) (fun _ w' => YEnd p gy W7 w') (fun w1 hS1 hJ1 => ?_) ?_
        · obtain ⟨hbel, hown⟩ := hJ1
          obtain ⟨hfz, hcz⟩ := Hst.out w1 hbel
          have HY := Hfin.out w1 A12 n12 c12 hbel hown
          exact Eff.skip (w' := w1.setCell ⟨gc, i, none⟩ (.slice A12 n12 c12)) (by go_simp) ⟨grownBy_trans hS1 (grownBy_setCell w1 gc i _), rfl, HY⟩
        rintro _ rfl
        rw [show List.erase [14] 14 = [] from rfl]; simp only [Act.put]
        refine ⟨rfl, fun w1 hS1 hJ1 => ?_⟩
        go_wp2_with fail
        go_meet
        exact hJ1
      · as_aux_lemma =>
       rintro _ rfl
       rw [show List.erase [3, 8, 9, 11, 12, 13, 14] 8 = [3, 9, 11, 12, 13, 14] from rfl]; simp only [Act.put, pA, pB, pC]
       refine TxtT.two 3 11 (by as_aux_lemma => kernel_rfl) (by rw [gA]; rfl) (by rw [gA]; rfl) (by rfl) (by rfl) (by rfl) (by rfl) (fun v => ∃ g, v = Value.slice (some ⟨g, 0, none⟩) 0 0) (fun v w' => ∃ g3, v = Value.slice (some ⟨g3, 0, none⟩) 0 0 ∧ J21 WR (some (.slice (some ⟨g3, 0, none⟩) 0 0)) [] none (x, y) w') (fun v => ∃ g, v = Value.slice (some ⟨g, 0, none⟩) 1 1) (fun v w' => ∃ g11, v = Value.slice (some ⟨g11, 0, none⟩) 1 1 ∧ J21 WR none [] (some g11) (x, y) w') (fun w1 hS1 hJ1 => ?_) (fun w1 hS1 hJ1 => ?_) ?_ ?_
       · exact Eff.value (w' := w1.alloc (.cells #[] 42)) (v := .slice (some ⟨w1.heap.size, 0, none⟩) 0 0) (by go_simp) ⟨grownBy_trans hS1 (grownBy_of_below (newB _ _) _), ⟨_, rfl⟩, _, rfl, hJ1.emp⟩
       · exact Eff.value (w' := w1.alloc (.cells #[.int .i64 x, .int .i64 y] 42)) (v := .slice (some ⟨w1.heap.size, 0, none⟩) 1 1) (by go_simp) ⟨grownBy_trans hS1 (grownBy_of_below (newB _ _) _), ⟨_, rfl⟩, _, rfl, hJ1.one⟩
       · as_aux_lemma =>
        rintro _ ⟨g3, rfl⟩
        rw [show List.erase [3, 9, 11, 12, 13, 14] 3 = [9, 11, 12, 13, 14] from rfl]; simp only [Act.put, pA, pB, pC]
        refine wkG (F := fun g3 w' => J21 WR (some (.slice (some ⟨g3, 0, none⟩) 0 0)) [] none (x, y) w') ?_
        refine TxtT.two 9 11 (by as_aux_lemma => kernel_rfl) (by rw [gA]; rfl) (by rw [gA]; rfl) (by rfl) (by rfl) (by rfl) (by rfl) (fun v => ∃ A n c, v = Value.slice A n c) (fun v w' => ∃ A9 n9 c9, v = Value.slice A9 n9 c9 ∧ J21 WR (some (.slice A9 n9 c9)) li none (x, y) w') (fun v => ∃ g, v = Value.slice (some ⟨g, 0, none⟩) 1 1) (fun v w' => ∃ g11, v = Value.slice (some ⟨g11, 0, none⟩) 1 1 ∧ J21 WR (some (.slice (some ⟨g3, 0, none⟩) 0 0)) [] (some g11) (x, y) w') (fun w1 hS1 hJ1 => ?_) (fun w1 hS1 hJ1 => ?_) ?_ ?_
        · refine eff_appPr (.tmp 120) (.tmp 125) (by rfl) w1 WR.heap.size (.slice (some ⟨g3, 0, none⟩) 0 0) [] (some ⟨bi, oi, none⟩) li li.length ci (hJ1.p _ rfl) (hrli.below hJ1.bel) rfl (fun e => by cases e) (by rfl) (by rfl) (by simp; omega) hJ1.bel.size fun v' w' hown' hb hg => ?_
          rw [List.nil_append] at hown'
          obtain ⟨A9, c9, rfl⟩ := hown'.shape
          exact ⟨grownBy_of_below (hJ1.bel.trans hb) _, ⟨A9, _, c9, rfl⟩, A9, _, c9, rfl, hJ1.app hown' hb hg Hli.out⟩
        · exact Eff.value (w' := w1.alloc (.cells #[.int .i64 x, .int .i64 y] 42)) (v := .slice (some ⟨w1.heap.size, 0, none⟩) 1 1) (by go_simp) ⟨grownBy_trans hS1 (grownBy_of_below (newB _ _) _), ⟨_, rfl⟩, _, rfl, hJ1.one⟩
        · as_aux_lemma =>
         rintro _ ⟨A9, n9, c9, rfl⟩
         rw [show List.erase [9, 11, 12, 13, 14] 9 = [11, 12, 13, 14] from rfl]; simp only [Act.put, pA, pB, pC]
         refine wkS (F := fun A9 n9 c9 w' => J21 WR (some (.slice A9 n9 c9)) li none (x, y) w') ?_
         refine TxtT.one 11 (by as_aux_lemma => kernel_rfl) (by rw [gA]; rfl) (by rfl) (by rfl) (fun v => ∃ g, v = Value.slice (some ⟨g, 0, none⟩) 1 1) (fun v w' => ∃ g11, v = Value.slice (some ⟨g11, 0, none⟩) 1 1 ∧ J21 WR (some (.slice A9 n9 c9)) li (some g11) (x, y) w') (fun w1 hS1 hJ1 => ?_) ?_
         · exact Eff.value (w' := w1.alloc (.cells #[.int .i64 x, .int .i64 y] 42)) (v := .slice (some ⟨w1.heap.size, 0, none⟩) 1 1) (by go_simp) ⟨grownBy_trans hS1 (grownBy_of_below (newB _ _) _), ⟨_, rfl⟩, _, rfl, hJ1.one⟩
         rintro _ ⟨g11, rfl⟩
         rw [show List.erase [11, 12, 13, 14] 11 = [12, 13, 14] from rfl]; simp only [Act.put, pA, pB, pC]
         refine wkG (F := fun g11 w' => J21 WR (some (.slice A9 n9 c9)) li (some g11) (x, y) w') ?_
         refine TxtT.one 12 (by as_aux_lemma => kernel_rfl) (by rw [gA]; rfl) (by rfl) (by rfl) (fun v => ∃ A n c, v = Value.slice A n c) (fun v w' => ∃ A12 n12 c12, v = Value.slice A12 n12 c12 ∧ J21e WR (.slice A12 n12 c12) (li ++ [(x, y)]) w') (fun w1 hS1 hJ1 => ?_) ?_
         · refine eff_appPr (.tmp 126) (.tmp 128) (by rfl) w1 WR.heap.size (.slice A9 n9 c9) li (some ⟨g11, 0, none⟩) [(x, y)] 1 1 (hJ1.p _ rfl) (OwnP.rpr (hJ1.e _ rfl)) rfl (fun e => by cases e) (by rfl) (by rfl) (by simp; omega) hJ1.bel.size fun v' w' hown' hb hg => ?_
           obtain ⟨A12, c12, rfl⟩ := hown'.shape
           exact ⟨grownBy_of_below (hJ1.bel.trans hb) _, ⟨A12, _, c12, rfl⟩, A12, _, c12, rfl, hJ1.bel.trans hb, hown'⟩
         rintro _ ⟨A12, n12, c12, rfl⟩
         rw [show List.erase [12, 13, 14] 12 = [13, 14] from rfl]; simp only [Act.put, pA, pB, pC]
         refine wkS (F := fun A12 n12 c12 w' => J21e WR (.slice A12 n12 c12) (li ++ [(x, y)]) w') ?_
         refine TxtT.pure 13 (by rfl) (by rw [gA]; rfl) (by rfl) (by as_aux_lemma => kernel_rfl) (by rfl) ?_; apply Exists.intro; refine ⟨fun w1 hS1 => ?_, ?_⟩; (focus (skip; go_simp; with_reducible rfl))
         rw [show List.erase [13, 14] 13 = [14] from rfl]; simp only [Act.put, pA, pB, pC]
         refine TxtT.one 14 (by as_aux_lemma => kernel_rfl) (by rw [gA]; rfl) (by rfl) (by rfl) (fun v => v = undef) (fun _ w' => YEnd p gy W7 w') (fun w1 hS1 hJ1 => ?_) ?_
         · obtain ⟨hbel, hown⟩ := hJ1
           obtain ⟨hfz, hcz⟩ := Hst.out w1 hbel
           have HY := Hfin.out w1 A12 n12 c12 hbel hown
           exact Eff.skip (w' := w1.setCell ⟨gc, i, none⟩ (.slice A12 n12 c12)) (by go_simp) ⟨grownBy_trans hS1 (grownBy_setCell w1 gc i _), rfl, HY⟩
         rintro _ rfl
         rw [show List.erase [14] 14 = [] from rfl]; simp only [Act.put]
         refine ⟨rfl, fun w1 hS1 hJ1 => ?_⟩
         go_wp2_with fail
         go_meet
         exact hJ1
        · as_aux_lemma =>
         rintro _ ⟨g11, rfl⟩
         rw [show List.erase [9, 11, 12, 13, 14] 11 = [9, 12, 13, 14] from rfl]; simp only [Act.put, pA, pB, pC]
         refine wkG (F := fun g11 w' => J21 WR (some (.slice (some ⟨g3, 0, none⟩) 0 0)) [] (some g11) (x, y) w') ?_
         refine TxtT.one 9 (by as_aux_lemma => kernel_rfl) (by rw [gA]; rfl) (by rfl) (by rfl) (fun v => ∃ A n c, v = Value.slice A n c) (fun v w' => ∃ A9 n9 c9, v = Value.slice A9 n9 c9 ∧ J21 WR (some (.slice A9 n9 c9)) li (some g11) (x, y) w') (fun w1 hS1 hJ1 => ?_) ?_
         · refine eff_appPr (.tmp 120) (.tmp 125) (by rfl) w1 WR.heap.size (.slice (some ⟨g3, 0, none⟩) 0 0) [] (some ⟨bi, oi, none⟩) li li.length ci (hJ1.p _ rfl) (hrli.below hJ1.bel) rfl (fun e => by cases e) (by rfl) (by rfl) (by simp; omega) hJ1.bel.size fun v' w' hown' hb hg => ?_
           rw [List.nil_append] at hown'
           obtain ⟨A9, c9, rfl⟩ := hown'.shape
           exact ⟨grownBy_of_below (hJ1.bel.trans hb) _, ⟨A9, _, c9, rfl⟩, A9, _, c9, rfl, hJ1.app hown' hb hg Hli.out⟩
         rintro _ ⟨A9, n9, c9, rfl⟩
         rw [show List.erase [9, 12, 13, 14] 9 = [12, 13, 14] from rfl]; simp only [Act.put, pA, pB, pC]
         refine wkS (F := fun A9 n9 c9 w' => J21 WR (some (.slice A9 n9 c9)) li (some g11) (x, y) w') ?_
         refine TxtT.one 12 (by as_aux_lemma => kernel_rfl) (by rw [gA]; rfl) (by rfl) (by rfl) (fun v => ∃ A n c, v = Value.slice A n c) (fun v w' => ∃ A12 n12 c12, v = Value.slice A12 n12 c12 ∧ J21e WR (.slice A12 n12 c12) (li ++ [(x, y)]) w') (fun w1 hS1 hJ1 => ?_) ?_
         · refine eff_appPr (.tmp 126) (.tmp 128) (by rfl) w1 WR.heap.size (.slice A9 n9 c9) li (some ⟨g11, 0, none⟩) [(x, y)] 1 1 (hJ1.p _ rfl) (OwnP.rpr (hJ1.e _ rfl)) rfl (fun e => by cases e) (by rfl) (by rfl) (by simp; omega) hJ1.bel.size fun v' w' hown' hb hg => ?_
           obtain ⟨A12, c12, rfl⟩ := hown'.shape
           exact ⟨grownBy_of_below (hJ1.bel.trans hb) _, ⟨A12, _, c12, rfl⟩, A12, _, c12, rfl, hJ1.bel.trans hb, hown'⟩
         rintro _ ⟨A12, n12, c12, rfl⟩
         rw [show List.erase [12, 13, 14] 12 = [13, 14] from rfl]; simp only [Act.put, pA, pB, pC]
         refine wkS (F := fun A12 n12 c12 w' => J21e WR (.slice A12 n12 c12) (li ++ [(x, y)]) w') ?_
         refine TxtT.pure 13 (by rfl) (by rw [gA]; rfl) (by rfl) (by as_aux_lemma => kernel_rfl) (by rfl) ?_; apply Exists.intro; refine ⟨fun w1 hS1 => ?_, ?_⟩; (focus (skip; go_simp; with_reducible rfl))
         rw [show List.erase [13, 14] 13 = [14] from rfl]; simp only [Act.put, pA, pB, pC]
         refine TxtT.one 14 (by as_aux_lemma => kernel_rfl) (by rw [gA]; rfl) (by rfl) (by rfl) (fun v => v = undef) (fun _ w' => YEnd p gy W7 w') (fun w1 hS1 hJ1 => ?_) ?_
         · obtain ⟨hbel, hown⟩ := hJ1
           obtain ⟨hfz, hcz⟩ := Hst.out w1 hbel
           have HY := Hfin.out w1 A12 n12 c12 hbel hown
           exact Eff.skip (w' := w1.setCell ⟨gc, i, none⟩ (.slice A12 n12 c12)) (by go_simp) ⟨grownBy_trans hS1 (grownBy_setCell w1 gc i _), rfl, HY⟩
         rintro _ rfl
         rw [show List.erase [14] 14 = [] from rfl]; simp only [Act.put]
         refine ⟨rfl, fun w1 hS1 hJ1 => ?_⟩
         go_wp2_with fail
         go_meet
         exact hJ1
       · as_aux_lemma =>
        rintro _ ⟨g11, rfl⟩
        rw [show List.erase [3, 9, 11, 12, 13, 14] 11 = [3, 9, 12, 13, 14] from rfl]; simp only [Act.put, pA, pB, pC]
        refine wkG (F := fun g11 w' => J21 WR none [] (some g11) (x, y) w') ?_
        refine TxtT.one 3 (by as_aux_lemma => kernel_rfl) (by rw [gA]; rfl) (by rfl) (by rfl) (fun v => ∃ g, v = Value.slice (some ⟨g, 0, none⟩) 0 0) (fun v w' => ∃ g3, v = Value.slice (some ⟨g3, 0, none⟩) 0 0 ∧ J21 WR (some (.slice (some ⟨g3, 0, none⟩) 0 0)) [] (some g11) (x, y) w') (fun w1 hS1 hJ1 => ?_) ?_
        · exact Eff.value (w' := w1.alloc (.cells #[] 42)) (v := .slice (some ⟨w1.heap.size, 0, none⟩) 0 0) (by go_simp) ⟨grownBy_trans hS1 (grownBy_of_below (newB _ _) _), ⟨_, rfl⟩, _, rfl, hJ1.emp⟩
        rintro _ ⟨g3, rfl⟩
        rw [show List.erase [3, 9, 12, 13, 14] 3 = [9, 12, 13, 14] from rfl]; simp only [Act.put, pA, pB, pC]
        refine wkG (F := fun g3 w' => J21 WR (some (.slice (some ⟨g3, 0, none⟩) 0 0)) [] (some g11) (x, y) w') ?_
        refine TxtT.one 9 (by as_aux_lemma => kernel_rfl) (by rw [gA]; rfl) (by rfl) (by rfl) (fun v => ∃ A n c, v = Value.slice A n c) (fun v w' => ∃ A9 n9 c9, v = Value.slice A9 n9 c9 ∧ J21 WR (some (.slice A9 n9 c9)) li (some g11) (x, y) w') (fun w1 hS1 hJ1 => ?_) ?_
        · refine eff_appPr (.tmp 120) (.tmp 125) (by rfl) w1 WR.heap.size (.slice (some ⟨g3, 0, none⟩) 0 0) [] (some ⟨bi, oi, none⟩) li li.length ci (hJ1.p _ rfl) (hrli.below hJ1.bel) rfl (fun e => by cases e) (by rfl) (by rfl) (by simp; omega) hJ1.bel.size fun v' w' hown' hb hg => ?_
          rw [List.nil_append] at hown'
          obtain ⟨A9, c9, rfl⟩ := hown'.shape
          exact ⟨grownBy_of_below (hJ1.bel.trans hb) _, ⟨A9, _, c9, rfl⟩, A9, _, c9, rfl, hJ1.app hown' hb hg Hli.out⟩
        rintro _ ⟨A9, n9, c9, rfl⟩
        rw [show List.erase [9, 12, 13, 14] 9 = [12, 13, 14] from rfl]; simp only [Act.put, pA, pB, pC]
        refine wkS (F := fun A9 n9 c9 w' => J21 WR (some (.slice A9 n9 c9)) li (some g11) (x, y) w') ?_
        refine TxtT.one 12 (by as_aux_lemma => kernel_rfl) (by rw [gA]; rfl) (by rfl) (by rfl) (fun v => ∃ A n c, v = Value.slice A n c) (fun v w' => ∃ A12 n12 c12, v = Value.slice A12 n12 c12 ∧ J21e WR (.slice A12 n12 c12) (li ++ [(x, y)]) w') (fun w1 hS1 hJ1 => ?_) ?_
        · refine eff_appPr (.tmp 126) (.tmp 128) (by rfl) w1 WR.heap.size (.slice A9 n9 c9) li (some ⟨g11, 0, none⟩) [(x, y)] 1 1 (hJ1.p _ rfl) (OwnP.rpr (hJ1.e _ rfl)) rfl (fun e => by cases e) (by rfl) (by rfl) (by simp; omega) hJ1.bel.size fun v' w' hown' hb hg => ?_
          obtain ⟨A12, c12, rfl⟩ := hown'.shape
          exact ⟨grownBy_of_below (hJ1.bel.trans hb) _, ⟨A12, _, c12, rfl⟩, A12, _, c12, rfl, hJ1.bel.trans hb, hown'⟩
        rintro _ ⟨A12, n12, c12, rfl⟩
        rw [show List.erase [12, 13, 14] 12 = [13, 14] from rfl]; simp only [Act.put, pA, pB, pC]
        refine wkS (F := fun A12 n12 c12 w' => J21e WR (.slice A12 n12 c12) (li ++ [(x, y)]) w') ?_
        refine TxtT.pure 13 (by rfl) (by rw [gA]; rfl) (by rfl) (by as_aux_lemma => kernel_rfl) (by rfl) ?_; apply Exists.intro; refine ⟨fun w1 hS1 => ?_, ?_⟩; (focus (skip; go_simp; with_reducible rfl))
        rw [show List.erase [13, 14] 13 = [14] from rfl]; simp only [Act.put, pA, pB, pC]
        refine TxtT.one 14 (by as_aux_lemma => kernel_rfl) (by rw [gA]; rfl) (by rfl) (by rfl) (fun v => v = undef) (fun _ w' => YEnd p gy W7 w') (fun w1 hS1 hJ1 => ?_) ?_
        · obtain ⟨hbel, hown⟩ := hJ1
          obtain ⟨hfz, hcz⟩ := Hst.out w1 hbel
          have HY := Hfin.out w1 A12 n12 c12 hbel hown
          exact Eff.skip (w' := w1.setCell ⟨gc, i, none⟩ (.slice A12 n12 c12)) (by go_simp) ⟨grownBy_trans hS1 (grownBy_setCell w1 gc i _), rfl, HY⟩
        rintro _ rfl
        rw [show List.erase [14] 14 = [] from rfl]; simp only [Act.put]
        refine ⟨rfl, fun w1 hS1 hJ1 => ?_⟩
        go_wp2_with fail
        go_meet
        exact hJ1
      · as_aux_lemma =>
       rintro _ ⟨g11, rfl⟩
       rw [show List.erase [3, 8, 9, 11, 12, 13, 14] 11 = [3, 8, 9, 12, 13, 14] from rfl]; simp only [Act.put, pA, pB, pC]
       refine wkG (F := fun g11 w' => J21 WR none [] (some g11) (x, y) w') ?_
       refine TxtT.two 3 8 (by as_aux_lemma => kernel_rfl) (by rw [gA]; rfl) (by rw [gA]; rfl) (by rfl) (by rfl) (by rfl) (by rfl) (fun v => ∃ g, v = Value.slice (some ⟨g, 0, none⟩) 0 0) (fun v w' => ∃ g3, v = Value.slice (some ⟨g3, 0, none⟩) 0 0 ∧ J21 WR (some (.slice (some ⟨g3, 0, none⟩) 0 0)) [] (some g11) (x, y) w') (fun v => v = (Value.slice (some ⟨bi, oi, none⟩) li.length ci)) (fun _ w' => J21 WR none [] (some g11) (x, y) w') (fun w1 hS1 hJ1 => ?_) (fun w1 hS1 hJ1 => ?_) ?_ ?_
       · exact Eff.value (w' := w1.alloc (.cells #[] 42)) (v := .slice (some ⟨w1.heap.size, 0, none⟩) 0 0) (by go_simp) ⟨grownBy_trans hS1 (grownBy_of_below (newB _ _) _), ⟨_, rfl⟩, _, rfl, hJ1.emp⟩
       · have hc8 : w1.cell? ⟨gc, i, none⟩ = some (Value.slice (some ⟨bi, oi, none⟩) li.length ci) := (hJ1.bel.cell (lt_of_cell hci)).trans hci
         exact Eff.value (w' := w1) (v := (Value.slice (some ⟨bi, oi, none⟩) li.length ci)) (by go_simp) ⟨hS1, rfl, hJ1⟩
       · as_aux_lemma =>
        rintro _ ⟨g3, rfl⟩
        rw [show List.erase [3, 8, 9, 12, 13, 14] 3 = [8, 9, 12, 13, 14] from rfl]; simp only [Act.put, pA, pB, pC]
        refine wkG (F := fun g3 w' => J21 WR (some (.slice (some ⟨g3, 0, none⟩) 0 0)) [] (some g11) (x, y) w') ?_
        refine TxtT.one 8 (by as_aux_lemma => kernel_rfl) (by rw [gA]; rfl) (by rfl) (by rfl) (fun v => v = (Value.slice (some ⟨bi, oi, none⟩) li.length ci)) (fun _ w' => J21 WR (some (.slice (some ⟨g3, 0, none⟩) 0 0)) [] (some g11) (x, y) w') (fun w1 hS1 hJ1 => ?_) ?_
        · have hc8 : w1.cell? ⟨gc, i, none⟩ = some (Value.slice (some ⟨bi, oi, none⟩) li.length ci) := (hJ1.bel.cell (lt_of_cell hci)).trans hci
          exact Eff.value (w' := w1) (v := (Value.slice (some ⟨bi, oi, none⟩) li.length ci)) (by go_simp) ⟨hS1, rfl, hJ1⟩
        rintro _ rfl
        rw [show List.erase [8, 9, 12, 13, 14] 8 = [9, 12, 13, 14] from rfl]; simp only [Act.put, pA, pB, pC]
        refine TxtT.one 9 (by as_aux_lemma => kernel_rfl) (by rw [gA]; rfl) (by rfl) (by rfl) (fun v => ∃ A n c, v = Value.slice A n c) (fun v w' => ∃ A9 n9 c9, v = Value.slice A9 n9 c9 ∧ J21 WR (some (.slice A9 n9 c9)) li (some g11) (x, y) w') (fun w1 hS1 hJ1 => ?_) ?_
        · refine eff_appPr (.tmp 120) (.tmp 125) (by rfl) w1 WR.heap.size (.slice (some ⟨g3, 0, none⟩) 0 0) [] (some ⟨bi, oi, none⟩) li li.length ci (hJ1.p _ rfl) (hrli.below hJ1.bel) rfl (fun e => by cases e) (by rfl) (by rfl) (by simp; omega) hJ1.bel.size fun v' w' hown' hb hg => ?_
          rw [List.nil_append] at hown'
          obtain ⟨A9, c9, rfl⟩ := hown'.shape
          exact ⟨grownBy_of_below (hJ1.bel.trans hb) _, ⟨A9, _, c9, rfl⟩, A9, _, c9, rfl, hJ1.app hown' hb hg Hli.out⟩
        rintro _ ⟨A9, n9, c9, rfl⟩
        rw [show List.erase [9, 12, 13, 14] 9 = [12, 13, 14] from rfl]; simp only [Act.put, pA, pB, pC]
        refine wkS (F := fun A9 n9 c9 w' => J21 WR (some (.slice A9 n9 c9)) li (some g11) (x, y) w') ?_
        refine TxtT.one 12 (by as_aux_lemma => kernel_rfl) (by rw [gA]; rfl) (by rfl) (by rfl) (fun v => ∃ A n c, v = Value.slice A n c) (fun v w' => ∃ A12 n12 c12, v = Value.slice A12 n12 c12 ∧ J21e WR (.slice A12 n12 c12) (li ++ [(x, y)]) w') (fun w1 hS1 hJ1 => ?_) ?_
        · refine eff_appPr (.tmp 126) (.tmp 128) (by rfl) w1 WR.heap.size (.slice A9 n9 c9) li (some ⟨g11, 0, none⟩) [(x, y)] 1 1 (hJ1.p _ rfl) (OwnP.rpr (hJ1.e _ rfl)) rfl (fun e => by cases e) (by rfl) (by rfl) (by simp; omega) hJ1.bel.size fun v' w' hown' hb hg => ?_
          obtain ⟨A12, c12, rfl⟩ := hown'.shape
          exact ⟨grownBy_of_below (hJ1.bel.trans hb) _, ⟨A12, _, c12, rfl⟩, A12, _, c12, rfl, hJ1.bel.trans hb, hown'⟩
        rintro _ ⟨A12, n12, c12, rfl⟩
        rw [show List.erase [12, 13, 14] 12 = [13, 14] from rfl]; simp only [Act.put, pA, pB, pC]
        refine wkS (F := fun A12 n12 c12 w' => J21e WR (.slice A12 n12 c12) (li ++ [(x, y)]) w') ?_
        refine TxtT.pure 13 (by rfl) (by rw [gA]; rfl) (by rfl) (by as_aux_lemma => kernel_rfl) (by rfl) ?_; apply Exists.intro; refine ⟨fun w1 hS1 => ?_, ?_⟩; (focus (skip; go_simp; with_reducible rfl))
        rw [show List.erase [13, 14] 13 = [14] from rfl]; simp only [Act.put, pA, pB, pC]
        refine TxtT.one 14 (by as_aux_lemma => kernel_rfl) (by rw [gA]; rfl) (by rfl) (by rfl) (fun v => v = undef) (fun _ w' => YEnd p gy W7 w') (fun w1 hS1 hJ1 => ?_) ?_
        · obtain ⟨hbel, hown⟩ := hJ1
          obtain ⟨hfz, hcz⟩ := Hst.out w1 hbel
          have HY := Hfin.out w1 A12 n12 c12 hbel hown
          exact Eff.skip (w' := w1.setCell ⟨gc, i, none⟩ (.slice A12 n12 c12)) (by go_simp) ⟨grownBy_trans hS1 (grownBy_setCell w1 gc i _), rfl, HY⟩
        rintro _ rfl
        rw [show List.erase [14] 14 = [] from rfl]; simp only [Act.put]
        refine ⟨rfl, fun w1 hS1 hJ1 => ?_⟩
        go_wp2_with fail
        go_meet
        exact hJ1
       · as_aux_lemma =>
        rintro _ rfl
        rw [show List.erase [3, 8, 9, 12, 13, 14] 8 = [3, 9, 12, 13, 14] from rfl]; simp only [Act.put, pA, pB, pC]
        refine TxtT.one 3 (by as_aux_lemma => kernel_rfl) (by rw [gA]; rfl) (by rfl) (by rfl) (fun v => ∃ g, v = Value.slice (some ⟨g, 0, none⟩) 0 0) (fun v w' => ∃ g3, v = Value.slice (some ⟨g3, 0, none⟩) 0 0 ∧ J21 WR (some (.slice (some ⟨g3, 0, none⟩) 0 0)) [] (some g11) (x, y) w') (fun w1 hS1 hJ1 => ?_) ?_
        · exact Eff.value (w' := w1.alloc (.cells #[] 42)) (v := .slice (some ⟨w1.heap.size, 0, none⟩) 0 0) (by go_simp) ⟨grownBy_trans hS1 (grownBy_of_below (newB _ _) _), ⟨_, rfl⟩, _, rfl, hJ1.emp⟩
        rintro _ ⟨g3, rfl⟩
        rw [show List.erase [3, 9, 12, 13, 14] 3 = [9, 12, 13, 14] from rfl]; simp only [Act.put, pA, pB, pC]
        refine wkG (F := fun g3 w' => J21 WR (some (.slice (some ⟨g3, 0, none⟩) 0 0)) [] (some g11) (x, y) w') ?_
        refine TxtT.one 9 (by as_aux_lemma => kernel_rfl) (by rw [gA]; rfl) (by rfl) (by rfl) (fun v => ∃ A n c, v = Value.slice A n c) (fun v w' => ∃ A9 n9 c9, v = Value.slice A9 n9 c9 ∧ J21 WR (some (.slice A9 n9 c9)) li (some g11) (x, y) w') (fun w1 hS1 hJ1 => ?_) ?_
        · refine eff_appPr (.tmp 120) (.tmp 125) (by rfl) w1 WR.heap.size (.slice (some ⟨g3, 0, none⟩) 0 0) [] (some ⟨bi, oi, none⟩) li li.length ci (hJ1.p _ rfl) (hrli.below hJ1.bel) rfl (fun e => by cases e) (by rfl) (by rfl) (by simp; omega) hJ1.bel.size fun v' w' hown' hb hg => ?_
          rw [List.nil_append] at hown'
          obtain ⟨A9, c9, rfl⟩ := hown'.shape
          exact ⟨grownBy_of_below (hJ1.bel.trans hb) _, ⟨A9, _, c9, rfl⟩, A9, _, c9, rfl, hJ1.app hown' hb hg Hli.out⟩
        rintro _ ⟨A9, n9, c9, rfl⟩
        rw [show List.erase [9, 12, 13, 14] 9 = [12, 13, 14] from rfl]; simp only [Act.put, pA, pB, pC]
        refine wkS (F := fun A9 n9 c9 w' => J21 WR (some (.slice A9 n9 c9)) li (some g11) (x, y) w') ?_
        refine TxtT.one 12 (by as_aux_lemma => kernel_rfl) (by rw [gA]; rfl) (by rfl) (by rfl) (fun v => ∃ A n c, v = Value.slice A n c) (fun v w' => ∃ A12 n12 c12, v = Value.slice A12 n12 c12 ∧ J21e WR (.slice A12 n12 c12) (li ++ [(x, y)]) w') (fun w1 hS1 hJ1 => ?_) ?_
        · refine eff_appPr (.tmp 126) (.tmp 128) (by rfl) w1 WR.heap.size (.slice A9 n9 c9) li (some ⟨g11, 0, none⟩) [(x, y)] 1 1 (hJ1.p _ rfl) (OwnP.rpr (hJ1.e _ rfl)) rfl (fun e => by cases e) (by rfl) (by rfl) (by simp; omega) hJ1.bel.size fun v' w' hown' hb hg => ?_
          obtain ⟨A12, c12, rfl⟩ := hown'.shape
          exact ⟨grownBy_of_below (hJ1.bel.trans hb) _, ⟨A12, _, c12, rfl⟩, A12, _, c12, rfl, hJ1.bel.trans hb, hown'⟩
        rintro _ ⟨A12, n12, c12, rfl⟩
        rw [show List.erase [12, 13, 14] 12 = [13, 14] from rfl]; simp only [Act.put, pA, pB, pC]
        refine wkS (F := fun A12 n12 c12 w' => J21e WR (.slice A12 n12 c12) (li ++ [(x, y)]) w') ?_
        refine TxtT.pure 13 (by rfl) (by rw [gA]; rfl) (by rfl) (by as_aux_lemma => kernel_rfl) (by rfl) ?_; apply Exists.intro; refine ⟨fun w1 hS1 => ?_, ?_⟩; (focus (skip; go_simp; with_reducible rfl))
        rw [show List.erase [13, 14] 13 = [14] from rfl]; simp only [Act.put, pA, pB, pC]
        refine TxtT.one 14 (by as_aux_lemma => kernel_rfl) (by rw [gA]; rfl) (by rfl) (by rfl) (fun v => v = undef) (fun _ w' => YEnd p gy W7 w') (fun w1 hS1 hJ1 => ?_) ?_
        · obtain ⟨hbel, hown⟩ := hJ1
          obtain ⟨hfz, hcz⟩ := Hst.out w1 hbel
          have HY := Hfin.out w1 A12 n12 c12 hbel hown
          exact Eff.skip (w' := w1.setCell ⟨gc, i, none⟩ (.slice A12 n12 c12)) (by go_simp) ⟨grownBy_trans hS1 (grownBy_setCell w1 gc i _), rfl, HY⟩
        rintro _ rfl
        rw [show List.erase [14] 14 = [] from rfl]; simp only [Act.put]
        refine ⟨rfl, fun w1 hS1 hJ1 => ?_⟩
        go_wp2_with fail
        go_meet
        exact hJ1
    case inr.inr.inr.inr.inl => as_aux_lemma =>
      by_cases hC0 : O.length = 0
      case pos =>
        have hd0 : decide ((0 : Int) < (O.length : Int)) = false := decide_eq_false (by omega)
        go_wp2_with fail
        go_meet
        exact hY.fin
      case neg =>
      have hd0 : decide ((0 : Int) < (O.length : Int)) = true := decide_eq_true (by omega)
      have hpos : 0 < O.length := by omega
      obtain ⟨gc, rfl, -, hgc1, -, -, -⟩ := OwnTS.pos hY.o2 (by omega)
      go_wp2_with fail
      refine (n_any p (O.length : Int) WT hY.k.src (by omega) (by omega)).mono ?_
      rintro e w11 ⟨iz, rfl, hi0, hi1, hs11, hg11⟩
      obtain ⟨i, rfl⟩ := Int.eq_ofNat_of_zero_le hi0
      have hil : (i : Int) < (O.length : Int) := by omega
      have hio : i < O.length := by omega
      have hYR := hY.read hs11 hg11
      obtain ⟨WR, hWR⟩ : ∃ WR, WR = w11 := ⟨_, rfl⟩
      subst hWR
      clear hs11 hg11 y0 y1 y2 yf0 yf1 yf2 q0 q1 hY hd0
      obtain ⟨bi, oi, ci, hxi, hri, hbi, hli0, hlic⟩ := hYR.rx.2 i hio
      have hlile := hYR.le _ (List.getElem_mem hio)
      have hlii := hYR.ii _ (List.getElem_mem hio)
      obtain ⟨li, hlie⟩ : ∃ li, O[i] = li := ⟨_, rfl⟩
      rw [hlie] at hxi hri hlile hlii hli0 hlic
      have hbi7 : bi < W7.heap.size := by
        obtain ⟨b', o', e, h1, _⟩ := hri.at_ hli0
        injection e with e
        injection e with e
        have := lt_of_cell h1
        simp only at this
        omega
      obtain ⟨ta, hta⟩ : ∃ ta, (if ci = 1 then ⟨bi, oi, none⟩ else (⟨bi, oi, none⟩ : Addr).add (1 * 2)) = ta := ⟨_, rfl⟩
      have htb : ta.block = bi := by
        rw [← hta]
        split
        · rfl
        · rw [plainA]
      have Hst := Lib.hid (fun (w1 : World) (hS : YA p gy gp W5.heap.size A1 s1 c1 (.slice A2 C.length d2) (.slice (some ⟨gc, 0, none⟩) O.length cO) C X O x y W7 w1) => show w1.frozen? ⟨gc, i, none⟩ = false ∧ w1.cell? ⟨gc, i, none⟩ = some (.slice (some ⟨bi, oi, none⟩) li.length ci) ∧ YEnd p gy W7 (w1.setCell ⟨gc, i, none⟩ (.slice (some ta) (li.length - 1) (ci - 1))) from by
        obtain ⟨_, h1, _, _, _, h5, h6⟩ := OwnTS.pos hS.o2 (by omega)
        obtain rfl := addr_inj h1
        have hr1 := hri.grown hS.k.near.grown (fun b o e => by injection e with e; injection e with e; omega)
        have hrt := rp_tail hr1 hlic
        rw [hta] at hrt
        have hf := hS.fin3 (i := i) (c' := ci - 1) hrt (fun b o e => by
          injection e with e
          rw [e] at htb
          simp only at htb
          omega) (by rw [List.length_drop]; omega) (fun q hq => hlii q (List.mem_of_mem_drop hq))
        rw [List.length_drop] at hf
        exact ⟨h5 i, h6 i _ hxi, hf⟩)
      have Hta := Lib.hid hta
      clear hta htb
      go_upto_region 25 with fail
      refine wp_region_textZ [7, 10] (fun w' => YA p gy gp W5.heap.size A1 s1 c1 (.slice A2 C.length d2) (.slice (some ⟨gc, 0, none⟩) O.length cO) C X O x y W7 w') (fun _ => True) (by kernel_rfl) (by kernel_rfl) (by kernel_rfl) (by kernel_rfl) (hYR.low (Below.refl _ _).drew) trivial ?_
      repeat (first
        | (refine TxtZL.skip (by rfl) ?_; simp only [Act.put, pA, pB, pC])
        | (refine TxtZL.take (by rfl) (by rfl) ?_; apply Exists.intro; refine ⟨fun w1 hS1 => ?_, ?_⟩; (focus ((obtain ⟨y0, y1, y2, _, _⟩ := hS1.k.blk.threeE); go_simp; with_reducible rfl)); simp only [Act.put, pA, pB, pC])
        | (refine TxtZL.takeE' (by rfl) (by rfl) ?_; apply Exists.intro; refine ⟨fun w1 hS1 => ?_, ?_⟩; (focus ((obtain ⟨y0, y1, y2, _, _⟩ := hS1.k.blk.threeE); go_simp; with_reducible rfl)); simp only [Act.put, pA, pB, pC]))
      refine TxtZL.value (fun v => v = .slice (some ⟨bi, oi, none⟩) li.length ci) (fun _ _ => True) (by rfl) (by rfl) ⟨_, rfl⟩ (fun w1 hS1 hJ1 => ?_) ?_
      · obtain ⟨h1, h2, h3⟩ := Hst.out w1 hS1
        have HS := Lib.hid hS1
        clear hS1 h3
        exact ⟨.slice (some ⟨bi, oi, none⟩) li.length ci, w1, by go_simp, HS.out, rfl, trivial⟩
      rintro _ rfl
      simp only [Act.put, pA, pB, pC]
      refine TxtZL.take (by rfl) (by rfl) ?_
      apply Exists.intro
      refine ⟨fun w1 hS1 => ?_, ?_⟩
      · have hsl := run_sufP ⟨bi, oi, none⟩ li.length ci 1 (by omega) w1
        rw [Hta.out] at hsl
        exact exec_sl (by rfl) (by rfl) (by rfl) hsl
      simp only [Act.put, pA, pB, pC]
      repeat (first
        | (refine TxtZL.skip (by rfl) ?_; simp only [Act.put, pA, pB, pC])
        | (refine TxtZL.take (by rfl) (by rfl) ?_; apply Exists.intro; refine ⟨fun w1 hS1 => ?_, ?_⟩; (focus ((obtain ⟨y0, y1, y2, _, _⟩ := hS1.k.blk.threeE); go_simp; with_reducible rfl)); simp only [Act.put, pA, pB, pC])
        | (refine TxtZL.takeE' (by rfl) (by rfl) ?_; apply Exists.intro; refine ⟨fun w1 hS1 => ?_, ?_⟩; (focus ((obtain ⟨y0, y1, y2, _, _⟩ := hS1.k.blk.threeE); go_simp; with_reducible rfl)); simp only [Act.put, pA, pB, pC]))
      refine TxtZL.last (fun w' => YEnd p gy W7 w') (by rfl) (by rfl) (fun w1 hS1 hJ1 => ?_) ?_
      · obtain ⟨h1, h2, h3⟩ := Hst.out w1 hS1
        have H3 := Lib.hid h3
        clear hS1 h3
        exact Eff.skip (w' := w1.setCell ⟨gc, i, none⟩ (.slice (some ta) (li.length - 1) (ci - 1))) (by go_simp) H3.out
      rintro v0 w1 hE
      go_wp2_with fail
      go_meet
      exact hE
    case inr.inr.inr.inr.inr => as_aux_lemma =>
      obtain ⟨z0, z1, -, -⟩ := kgT.two
      go_wp2_with fail
      refine (nwSome_any p n WT hY.k.src (by omega)).mono ?_
      rintro e w11 ⟨S, AS, cS, rfl, hset, hSo, hs11, hg11⟩
      have hYR := hY.read hs11 hg11
      have hSl := setB_len hset
      have HE := Lib.hid (hYR.fin5 hSo (by omega))
      obtain ⟨n0, n1, n2, _, _⟩ := hYR.k.blk.threeE
      have n3 := hYR.k.blk.frozen 0
      clear hYR y0 y1 y2 yf0 yf1 yf2 q0 q1 hY hset hSo hs11 hg11 z0 z1
      go_wp2_with fail
      go_meet
      exact HE.out
  obtain ⟨hn, A3, s3, c3, B3, C3, d3, D3, O3, e3, ky, hzy⟩ := hcut
  obtain ⟨WE, hWE⟩ : ∃ WE, WE = wc := ⟨_, rfl⟩
  subst hWE
  have hgE : W5.grownBy WE (some p) := grownBy_trans hg6 hn.grown
  have hBE : Below w.heap.size w WE := hB6.trans (below_of_grownBy hgE (by omega) hB6.size)
  have k0E := k07.grown hgE (by simp; omega)
  have k1E := k17.grown hgE (by simp; omega)
  have kgE := kg5.grown hgE (fun e => by injection e with e; omega)
  have hrpE := HRP.out WE hgE
  have kxE := kx.grown hn.grown (fun e => by injection e with e; omega)
  have hzx := (HZ.out.grown hn.grown hp5).zf
  have hgv : Zf WE VA gs VB gC gd VD gO :=
    { rs := Hgv.out.1.below hBE, rc := Hgv.out.2.1.below hBE, ro := Hgv.out.2.2.1.below hBE, ls := by have := Hlig.out; omega, lc := by have := Hlig.out; omega, lo := by have := Hlig.out; omega, lf := by have := Hlig.out; omega, ii := Hgv.out.2.2.2.2, cd := Hgv.out.2.2.2.1 }
  have Hzx := Lib.hid hzx; have Hgv2 := Lib.hid hgv; have Hzy := Lib.hid hzy
  clear hzx hgv hzy hn hgE hY kgT hg6 kx kg5 k07 k17 hgx7 hB6 hs10
  obtain ⟨a0, a1, a2, _, _⟩ := k1E.threeE
  obtain ⟨b0, b1, b2, _, _⟩ := kxE.threeE
  obtain ⟨d0, d1', d2', _, _⟩ := ky.threeE
  go_upto_region 27 with fail
  obtain ⟨V1, hW, k3, hb3, -⟩ := rowE3 WE (.slice VA gs.length gc0) (.slice VB gC.length gd) (.slice VD gO.length ge) (.slice A1 s1.length c1) (.slice B1 C.length d1) (.slice D1 O.length e1) (.slice A3 s3.length c3) (.slice B3 C3.length d3) (.slice D3 O3.length e3)
  rw [hW]
  clear hW a0 a1 a2 b0 b1 b2 d0 d1' d2' k1E kxE ky
  have hB1 := endB hBE hb3
  have k0F := k0E.below hb3 k0E.lt
  have kgF := kgE.below hb3 kgE.lt
  have hrpF := hrpE.below hb3
  have Hz1 := Lib.hid (Hgv2.out.below hb3); have Hz2 := Lib.hid (Hzx.out.below hb3); have Hz3 := Lib.hid (Hzy.out.below hb3)
  clear k0E kgE hrpE hBE hb3
  go_loopw [157] (fun i wr => ∃ j : Nat, j ≤ 3 ∧ i = .int .i64 (j : Int) ∧ Below V1.heap.size V1 wr) (fun i _ => 3 - (intOf i).toNat)
  case atStart => exact ⟨0, by omega, rfl, Below.refl _ _⟩
  case round =>
    obtain ⟨j, hj, rfl, hbj⟩ := hrel
    obtain ⟨U, hU⟩ : ∃ U, U = wr := ⟨_, rfl⟩
    subst hU
    have hBU := endB hB1 hbj
    have k3U := k3.below hbj k3.lt
    have k0U := k0F.below hbj k0F.lt
    have kgU := kgF.below hbj kgF.lt
    have hrpU := hrpF.below hbj
    by_cases hjl : j < 3
    case pos =>
      have hel : ∃ (AS : Option Addr) (s : List Int) (cS : Nat) (AC : Option Addr) (CC : List (Int × Int)) (cC : Nat) (AD : Option Addr) (OO : List (List (Int × Int))) (cD : Nat), U.cell? ⟨WE.heap.size, j * 3, none⟩ = some (.slice AS s.length cS) ∧ U.cell? ⟨WE.heap.size, j * 3 + 1, none⟩ = some (.slice AC CC.length cC) ∧ U.cell? ⟨WE.heap.size, j * 3 + 2, none⟩ = some (.slice AD OO.length cD) ∧ Zf U AS s AC CC cC AD OO := by
        rcases (by omega : j = 0 ∨ j = 1 ∨ j = 2) with rfl | rfl | rfl
        · exact ⟨VA, gs, gc0, VB, gC, gd, VD, gO, ge, k3U.cell 0, k3U.cell 1, k3U.cell 2, Hz1.out.below hbj⟩
        · exact ⟨A1, s1, c1, B1, C, d1, D1, O, e1, k3U.cell 3, k3U.cell 4, k3U.cell 5, Hz2.out.below hbj⟩
        · exact ⟨A3, s3, c3, B3, C3, d3, D3, O3, e3, k3U.cell 6, k3U.cell 7, k3U.cell 8, Hz3.out.below hbj⟩
      obtain ⟨AS, s, cS, AC, CC, cC, AD, OO, cD, e0, e1', e2, hz⟩ := hel
      have Hz := Lib.hid hz
      clear hz k3U
      go_upto_region 29 with fail
      obtain ⟨U1, hW, kz, hbz, -⟩ := boxEn U (.slice AS s.length cS) (.slice AC CC.length cC) (.slice AD OO.length cD)
      rw [hW]
      clear hW e0 e1' e2
      have hBU1 := endB hBU hbz
      have hbU1 := endB hbj hbz
      have k0V := k0U.below hbz k0U.lt
      have kgV := kgU.below hbz kgU.lt
      have hrpV := hrpU.below hbz
      have Hzv := Lib.hid (Hz.out.below hbz)
      clear hBU hbj k0U kgU hrpU hbz Hz
      obtain ⟨a0, a1, -, -⟩ := k0V.two
      obtain ⟨b0, b1, -, -⟩ := kgV.two
      go_upto_region 30 with fail
      obtain ⟨U2, hW, k2, hb2, -⟩ := rowG2 U1 N0 A0 l0.length c0 (n : Int) AL l.length cl
      rw [hW]
      clear hW a0 a1 b0 b1
      have hBU2 := endB hBU1 hb2
      have hbU2 := endB hbU1 hb2
      have kzV := kz.below hb2 kz.lt
      have hrpW := hrpV.below hb2
      have Hzw := Lib.hid (Hzv.out.below hb2)
      clear hBU1 hbU1 kz hrpV Hzv k0V kgV hb2
      go_loopw [165] (fun i wr => ∃ j : Nat, j ≤ 2 ∧ i = .int .i64 (j : Int) ∧ Below U2.heap.size U2 wr) (fun i _ => 2 - (intOf i).toNat)
      case atStart => exact ⟨0, by omega, rfl, Below.refl _ _⟩
      case round =>
        obtain ⟨i, hi, rfl, hbi⟩ := hrel
        obtain ⟨T, hT'⟩ : ∃ T, T = wr := ⟨_, rfl⟩
        subst hT'
        have hBT := endB hBU2 hbi
        have k2T := k2.below hbi k2.lt
        have kzT := kzV.below hbi kzV.lt
        have hrpT := hrpW.below hbi
        have Hzt := Lib.hid (Hzw.out.below hbi)
        by_cases hil : i < 2
        case pos =>
          have hgr : ∃ N2 A4 l2 c4, T.cell? ⟨U1.heap.size, i * 2, none⟩ = some (.int .i64 N2) ∧ T.cell? ⟨U1.heap.size, i * 2 + 1, none⟩ = some (.slice A4 (List.length l2) c4) ∧ RP T A4 l2 ∧ (A4 = none → l2 = [] ∧ c4 = 0) ∧ l2.length ≤ c4 ∧ l2.length ≤ 300 := by
            rcases (by omega : i = 0 ∨ i = 1) with rfl | rfl
            · exact ⟨N0, A0, l0, c0, k2T.cell 0, k2T.cell 1, hr0.below hBT, Hn0.out, hlc0, hl300⟩
            · exact ⟨(n : Int), AL, l, cl, k2T.cell 2, k2T.cell 3, hrpT, HAn.out.1, HAn.out.2, by omega⟩
          obtain ⟨N2, A4, l2, c4, hc0', hc1', hr2, hf2, hlc2, hl2⟩ := hgr
          have Hf2 := Lib.hid hf2
          clear hf2 k2T
          go_upto_region 32 with fail
          obtain ⟨W0, hW, kh, hbh, -⟩ := boxG T N2 A4 l2.length c4
          rw [hW]
          clear hW hc0' hc1'
          have hBH := endB hBT hbh
          have hbH := endB hbi hbh
          have kzH := kzT.below hbh kzT.lt
          have hr2H := hr2.below hbh
          have hzH := Hzt.out.below hbh
          obtain ⟨a0, a1, -, -⟩ := kh.two
          obtain ⟨b0, b1, b2, _, _⟩ := kzH.threeE
          have hlf := hzH.lc; have hls := hzH.ls; have hlo := hzH.lo
          have hck := fun (k : Int) (X : World) (hX : Below W0.heap.size W0 X) => enCheck_any A4 N2 l2 c4 k AS s cS AC CC cC AD OO cD X (hr2H.below hX) (by omega) (hzH.rs.below hX) (by omega) (hT.below (endB hBH hX)) (hzH.rc.below hX) (hzH.ro.below hX) (by omega) hzH.lf hzH.ii
          have hcr := fun (k : Int) (X : World) (hX : Below W0.heap.size W0 X) => rCheck_any A4 N2 l2 c4 k AS s cS AC CC cC AD OO cD X (hr2H.below hX) (by omega) (hzH.rs.below hX) (by omega) (hzH.rc.below hX) (hzH.ro.below hX) (by omega) hzH.lf Hf2.out hlc2 hzH.cd
          obtain ⟨r1, hr1⟩ : ∃ r, chkE N2 l2 kd s CC OO = r := ⟨_, rfl⟩
          obtain ⟨r2, hr2'⟩ : ∃ r, chkE N2 l2 kind s CC OO = r := ⟨_, rfl⟩
          have hc1 := hck kd
          have hc2 := hck kind
          have hd1 := hcr kd
          have hd2 := hcr kind
          simp only [hr1] at hc1 hd1
          simp only [hr2'] at hc2 hd2
          have Hc1 := Lib.hid hc1; have Hc2 := Lib.hid hc2; have Hd1 := Lib.hid hd1; have Hd2 := Lib.hid hd2
          have hn1 : (r1 != r1) = false := by simp
          have hn2 : (r2 != r2) = false := by simp
          clear hr1 hr2' hck hcr hc1 hc2 hd1 hd2 hzH hr2 hr2H kzT hrpT Hzt hlf hls hlo hbh
          refine wp_region_textB [3, 7, 9, 13, 17] (fun w' => Below W0.heap.size W0 w') (fun _ => True) (by kernel_rfl) (by kernel_rfl) (by kernel_rfl) (Below.refl _ _).drew trivial ?_
          repeat (first
            | (refine TxtBL.skip (by rfl) ?_; simp only [Act.put, pA, pB, pC])
            | (refine TxtBL.take (by rfl) (by rfl) ?_; apply Exists.intro; refine ⟨fun w1 hS1 => ?_, ?_⟩; (focus ((have d0 := (hS1.cell (lt_of_cell a0)).trans a0); (have d1' := (hS1.cell (lt_of_cell a1)).trans a1); (have d2' := (hS1.cell (lt_of_cell b0)).trans b0); (have d3' := (hS1.cell (lt_of_cell b1)).trans b1); (have d4' := (hS1.cell (lt_of_cell b2)).trans b2); go_simp; with_reducible rfl)); simp only [Act.put, pA, pB, pC])
            | (refine TxtBL.takeE (by rfl) (by rfl) ?_; apply Exists.intro; refine ⟨fun w1 hS1 => ?_, ?_⟩; (focus ((have d0 := (hS1.cell (lt_of_cell a0)).trans a0); (have d1' := (hS1.cell (lt_of_cell a1)).trans a1); (have d2' := (hS1.cell (lt_of_cell b0)).trans b0); (have d3' := (hS1.cell (lt_of_cell b1)).trans b1); (have d4' := (hS1.cell (lt_of_cell b2)).trans b2); go_simp; with_reducible rfl)); simp only [Act.put, pA, pB, pC]))
          refine TxtBL.call (f := 20) (args := #[.agg #[.int .i64 N2, .slice A4 l2.length c4], .int .i64 kd, .agg #[.slice AS s.length cS, .slice AC CC.length cC, .slice AD OO.length cD]]) (fun v => v = Value.int .i64 r1) (fun _ _ => True) (by rfl) (by rfl) ⟨_, rfl⟩ (fun w1 hS1 hJ1 => by go_simp) (fun w1 hS1 hJ1 => ?_) ?_
          · refine (Hc1.out w1 hS1).mono ?_
            rintro e w' ⟨rfl, hbb⟩
            exact ⟨_, rfl, hS1.trans (hbb.mono hS1.size), rfl, trivial⟩
          rintro _ rfl
          simp only [Act.put, pA, pB, pC]
          repeat (first
            | (refine TxtBL.skip (by rfl) ?_; simp only [Act.put, pA, pB, pC])
            | (refine TxtBL.take (by rfl) (by rfl) ?_; apply Exists.intro; refine ⟨fun w1 hS1 => ?_, ?_⟩; (focus ((have d0 := (hS1.cell (lt_of_cell a0)).trans a0); (have d1' := (hS1.cell (lt_of_cell a1)).trans a1); (have d2' := (hS1.cell (lt_of_cell b0)).trans b0); (have d3' := (hS1.cell (lt_of_cell b1)).trans b1); (have d4' := (hS1.cell (lt_of_cell b2)).trans b2); go_simp; with_reducible rfl)); simp only [Act.put, pA, pB, pC])
            | (refine TxtBL.takeE (by rfl) (by rfl) ?_; apply Exists.intro; refine ⟨fun w1 hS1 => ?_, ?_⟩; (focus ((have d0 := (hS1.cell (lt_of_cell a0)).trans a0); (have d1' := (hS1.cell (lt_of_cell a1)).trans a1); (have d2' := (hS1.cell (lt_of_cell b0)).trans b0); (have d3' := (hS1.cell (lt_of_cell b1)).trans b1); (have d4' := (hS1.cell (lt_of_cell b2)).trans b2); go_simp; with_reducible rfl)); simp only [Act.put, pA, pB, pC]))
          refine TxtBL.call (f := 21) (args := #[.agg #[.int .i64 N2, .slice A4 l2.length c4], .int .i64 kd, .agg #[.slice AS s.length cS, .slice AC CC.length cC, .slice AD OO.length cD]]) (fun v => v = Value.int .i64 r1) (fun _ _ => True) (by rfl) (by rfl) ⟨_, rfl⟩ (fun w1 hS1 hJ1 => by go_simp) (fun w1 hS1 hJ1 => ?_) ?_
          · refine (Hd1.out w1 hS1).mono ?_
            rintro e w' ⟨rfl, hbb⟩
            exact ⟨_, rfl, hS1.trans (hbb.mono hS1.size), rfl, trivial⟩
          rintro _ rfl
          simp only [Act.put, pA, pB, pC]
          repeat (first
            | (refine TxtBL.skip (by rfl) ?_; simp only [Act.put, pA, pB, pC])
            | (refine TxtBL.take (by rfl) (by rfl) ?_; apply Exists.intro; refine ⟨fun w1 hS1 => ?_, ?_⟩; (focus ((have d0 := (hS1.cell (lt_of_cell a0)).trans a0); (have d1' := (hS1.cell (lt_of_cell a1)).trans a1); (have d2' := (hS1.cell (lt_of_cell b0)).trans b0); (have d3' := (hS1.cell (lt_of_cell b1)).trans b1); (have d4' := (hS1.cell (lt_of_cell b2)).trans b2); go_simp; with_reducible rfl)); simp only [Act.put, pA, pB, pC])
            | (refine TxtBL.takeE (by rfl) (by rfl) ?_; apply Exists.intro; refine ⟨fun w1 hS1 => ?_, ?_⟩; (focus ((have d0 := (hS1.cell (lt_of_cell a0)).trans a0); (have d1' := (hS1.cell (lt_of_cell a1)).trans a1); (have d2' := (hS1.cell (lt_of_cell b0)).trans b0); (have d3' := (hS1.cell (lt_of_cell b1)).trans b1); (have d4' := (hS1.cell (lt_of_cell b2)).trans b2); go_simp; with_reducible rfl)); simp only [Act.put, pA, pB, pC]))
          refine TxtBL.call (f := 20) (args := #[.agg #[.int .i64 N2, .slice A4 l2.length c4], .int .i64 kind, .agg #[.slice AS s.length cS, .slice AC CC.length cC, .slice AD OO.length cD]]) (fun v => v = Value.int .i64 r2) (fun _ _ => True) (by rfl) (by rfl) ⟨_, rfl⟩ (fun w1 hS1 hJ1 => by go_simp) (fun w1 hS1 hJ1 => ?_) ?_
          · refine (Hc2.out w1 hS1).mono ?_
            rintro e w' ⟨rfl, hbb⟩
            exact ⟨_, rfl, hS1.trans (hbb.mono hS1.size), rfl, trivial⟩
          rintro _ rfl
          simp only [Act.put, pA, pB, pC]
          repeat (first
            | (refine TxtBL.skip (by rfl) ?_; simp only [Act.put, pA, pB, pC])
            | (refine TxtBL.take (by rfl) (by rfl) ?_; apply Exists.intro; refine ⟨fun w1 hS1 => ?_, ?_⟩; (focus ((have d0 := (hS1.cell (lt_of_cell a0)).trans a0); (have d1' := (hS1.cell (lt_of_cell a1)).trans a1); (have d2' := (hS1.cell (lt_of_cell b0)).trans b0); (have d3' := (hS1.cell (lt_of_cell b1)).trans b1); (have d4' := (hS1.cell (lt_of_cell b2)).trans b2); go_simp; with_reducible rfl)); simp only [Act.put, pA, pB, pC])
            | (refine TxtBL.takeE (by rfl) (by rfl) ?_; apply Exists.intro; refine ⟨fun w1 hS1 => ?_, ?_⟩; (focus ((have d0 := (hS1.cell (lt_of_cell a0)).trans a0); (have d1' := (hS1.cell (lt_of_cell a1)).trans a1); (have d2' := (hS1.cell (lt_of_cell b0)).trans b0); (have d3' := (hS1.cell (lt_of_cell b1)).trans b1); (have d4' := (hS1.cell (lt_of_cell b2)).trans b2); go_simp; with_reducible rfl)); simp only [Act.put, pA, pB, pC]))
          refine TxtBL.call (f := 21) (args := #[.agg #[.int .i64 N2, .slice A4 l2.length c4], .int .i64 kind, .agg #[.slice AS s.length cS, .slice AC CC.length cC, .slice AD OO.length cD]]) (fun v => v = Value.int .i64 r2) (fun _ _ => True) (by rfl) (by rfl) ⟨_, rfl⟩ (fun w1 hS1 hJ1 => by go_simp) (fun w1 hS1 hJ1 => ?_) ?_
          · refine (Hd2.out w1 hS1).mono ?_
            rintro e w' ⟨rfl, hbb⟩
            exact ⟨_, rfl, hS1.trans (hbb.mono hS1.size), rfl, trivial⟩
          rintro _ rfl
          simp only [Act.put, pA, pB, pC]
          repeat (first
            | (refine TxtBL.skip (by rfl) ?_; simp only [Act.put, pA, pB, pC])
            | (refine TxtBL.take (by rfl) (by rfl) ?_; apply Exists.intro; refine ⟨fun w1 hS1 => ?_, ?_⟩; (focus (skip; go_simp; with_reducible rfl)); simp only [Act.put, pA, pB, pC])
            | (refine TxtBL.takeE (by rfl) (by rfl) ?_; apply Exists.intro; refine ⟨fun w1 hS1 => ?_, ?_⟩; (focus (skip; go_simp; with_reducible rfl)); simp only [Act.put, pA, pB, pC]))
          refine TxtBL.nil (fun w1 hS1 _ => ?_)
          have hbl2 := endB hbH hS1
          go_wp2_with fail
          go_roundw
          case rel => exact ⟨i + 1, by omega, by go_num, hbl2⟩
          case measure => simp [intOf]; omega
        case neg =>
          obtain rfl : i = 2 := by omega
          have hD := endB hbU2 hbi
          go_wp2_with fail
          go_roundw
          case rel => exact ⟨j + 1, by omega, by go_num, hD⟩
          case measure => simp [intOf]; omega
    case neg =>
      obtain rfl : j = 3 := by omega
      go_wp2_with fail
      refine (Hawk.out _ hBU).mono ?_
      rintro e wz ⟨rfl, hbz⟩
      go_wp2_with fail
      go_ret
      exact ⟨rfl, endB hBU hbz⟩
end Go.Proofs.YtncimnfhfomddaaDoor
