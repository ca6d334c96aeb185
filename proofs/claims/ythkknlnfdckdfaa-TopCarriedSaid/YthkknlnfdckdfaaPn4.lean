/- Package participant: style, Choose. -/
import Derived.Test.YthkknlnfdckdfaaPn3
import Derived.Laws.EntriesVeiled
namespace Go.Proofs.Ythkknlnfdckdfaa
open Go.ChangeShapes Go.WideShapes Go.ChangeAt Go.RowKit

/-- what a style's function is, and what it reads -/
def StyC (s : Int) (C : Value) (l : List (Int × Int)) (w : World) : Prop :=
  (s = 1 ∧ C = .func (.func 67) #[] #[]) ∨ (s = 2 ∧ C = .func (.func 65) #[] #[]) ∨
  (s = 3 ∧ ∃ q d A c, C = .func (.func 66) #[] #[.pointer (some ⟨q, 0, none⟩)] ∧ w.cell? ⟨q, 0, none⟩ = some (.func (.func 64) #[] #[.pointer (some ⟨d, 0, none⟩)]) ∧ w.cell? ⟨d, 1, none⟩ = some (.slice A l.length c) ∧ RP w A l)
theorem minM_any (s : Int) (C : Value) (l : List (Int × Int)) (cc : Nat) (M : Option Addr) (ms : List Mv) (w : World) (h : StyC s C l w) (hll : l.length ≤ 100000) (hr : RM w M ms) (h0 : ms ≠ []) (hml : ms.length ≤ 1000000) :
    Calls Try.prog 50 #[.slice M ms.length cc, C] w (RetMv (minF l s ms) w) := by
  rcases h with ⟨rfl, rfl⟩ | ⟨rfl, rfl⟩ | ⟨rfl, q, d, A, c, rfl, hq, hc, hp⟩
  · exact minMF1_any l cc M ms w hr h0 hml
  · exact minMF2_any l cc M ms w hr h0 hml
  · exact minMF3_any A l c q d cc M ms w hq hc hp hll hr h0 hml
set_option maxRecDepth 100000 in
set_option maxHeartbeats 1000000 in
theorem style_any (n : Nat) (A : Option Addr) (l : List (Int × Int)) (c : Nat) (root l0 l1 : Int) (M : Option Addr) (km cm : Nat) (sty : Int) (w : World) (hp : RP w A l) (h1 : 1 ≤ sty) (h3 : sty ≤ 3) :
    Calls Try.prog 51 #[.agg #[.int .i64 (n : Int), .slice A l.length c, .int .i64 root, .int .i64 l0, .int .i64 l1, .slice M km cm], .int .i64 sty] w (fun e w' => ∃ C, e = .returned C ∧ StyC sty C l w' ∧ Below w.heap.size w w') := by
  have hmf : ∀ fn first cap w, (Instr.makeFunc fn first cap).run Try.prog w = .ok (.func fn first cap) w := fun _ _ _ _ => rfl
  go_enter Try.func51, Try.ntmps51
  go_upto_region 1 with fail
  obtain ⟨W0, hW, k0, hb0, hs0⟩ := boxedA w 34 #[.int .i64 (n : Int), .slice A l.length c, .int .i64 root, .int .i64 l0, .int .i64 l1, .slice M km cm]
  rw [hW]
  have z1 : W0.cell? ⟨w.heap.size, 1, none⟩ = some (.slice A l.length c) := k0.cell 1
  have hp0 := hp.below hb0
  clear hW k0 hp
  go_upto_region 2 with fail
  obtain ⟨W1, hW1, k1, hb1, hs1⟩ := boxedA W0 38 #[.func (.func 64) #[] #[.pointer (some ⟨w.heap.size, 0, none⟩)]]
  rw [hW1]
  rw [hs0] at k1
  have q0 : W1.cell? ⟨w.heap.size + 1, 0, none⟩ = some (.func (.func 64) #[] #[.pointer (some ⟨w.heap.size, 0, none⟩)]) := k1.cell 0
  have d1 := (hb1.cell (lt_of_cell z1)).trans z1
  have hp1 := hp0.below hb1
  have hbb := endB hb0 hb1
  clear hW1 k1 hb0 hb1 hp0 z1
  have h123 : sty = 1 ∨ sty = 2 ∨ sty = 3 := by omega
  rcases h123 with rfl | rfl | rfl
  · go_wp2_with fail
    go_ret
    exact ⟨_, rfl, .inl ⟨rfl, rfl⟩, hbb⟩
  · go_wp2_with fail
    go_ret
    exact ⟨_, rfl, .inr (.inl ⟨rfl, rfl⟩), hbb⟩
  · go_wp2_with fail
    go_ret
    exact ⟨_, rfl, .inr (.inr ⟨rfl, w.heap.size + 1, w.heap.size, A, c, rfl, q0, d1, hp1⟩), hbb⟩
theorem OwnM.some_ {w : World} {b c : Nat} {A : Option Addr} {l : List Mv} (h : OwnM w b (.slice A l.length c) l) (hl : l ≠ []) : ∃ g, A = some ⟨g, 0, none⟩ ∧ b ≤ g ∧ l.length ≤ c := by
  obtain ⟨h1, h2⟩ := h
  rcases h2 with ⟨e, hn⟩ | ⟨g, cap, cur, e, hg, hh, hn, _⟩
  · exact absurd (List.eq_nil_of_length_eq_zero hn) hl
  · injection e with e1 _ e3
    subst e1 e3
    exact ⟨g, rfl, hg, hn⟩
set_option maxRecDepth 100000 in
set_option maxHeartbeats 8000000 in
theorem choose_any (n : Nat) (A : Option Addr) (l : List (Int × Int)) (c : Nat) (root l0 l1 : Int) (M : Option Addr) (ms : List Mv) (cm : Nat) (P : Option Addr) (pool : List Int) (pc : Nat) (sty : Int) (w : World) (hp : RP w A l) (hr : RM w M ms) (hm : OkM ms) (hl : ms.length ≤ 250) (hll : l.length ≤ 1600) (ht : turnF l0 l1 l ms ≠ 0) (hpo : RI w P pool) (hpl : pool.length ≤ 100000) (ha : AscP n pool) (h1 : 1 ≤ sty) (h3 : sty ≤ 3) :
    Calls Try.prog 30 #[.agg #[.int .i64 (n : Int), .slice A l.length c, .int .i64 root, .int .i64 l0, .int .i64 l1, .slice M ms.length cm], .agg #[.slice P pool.length pc, .slice none 0 0, .slice none 0 0, .int .i64 sty]] w (RetB (.tuple #[.agg #[.int .i64 (chooseF l ms pool sty).1, .int .i64 (chooseF l ms pool sty).2.1, .int .i64 (chooseF l ms pool sty).2.2.1, .int .i64 (chooseF l ms pool sty).2.2.2], .int .i64 0]) w) := by
  obtain ⟨_, _, hne, _, htl⟩ := turn_run ht
  have hmf : ∀ fn first cap w, (Instr.makeFunc fn first cap).run Try.prog w = .ok (.func fn first cap) w := fun _ _ _ _ => rfl
  have HM := Lib.hid hm; have Ha := Lib.hid ha; have Hne := Lib.hid hne; have Ht := Lib.hid ht; have Htl := Lib.hid htl
  have hz : (turnF l0 l1 l ms == 0) = false := beq_eq_false_iff_ne.2 ht
  have Hlen := Lib.hid (Nat.le_trans (legR_len l ms ms.length) (Nat.mul_le_mul (show ms.length ≤ 300 by omega) hll) : (legL l ms).length ≤ 300 * 1600)
  have Hp := Lib.hid hp; have Hr := Lib.hid hr
  clear hm ha hne ht htl
  go_enter Try.func30, Try.ntmps30
  go_upto_region 1 with fail
  obtain ⟨W0, hW, k0, k1, k2, hb0, hs0⟩ := boxed3A w 34 41 46 #[.int .i64 (n : Int), .slice A l.length c, .int .i64 root, .int .i64 l0, .int .i64 l1, .slice M ms.length cm] #[.slice P pool.length pc, .slice none 0 0, .slice none 0 0, .int .i64 sty] #[.int .i64 0, .int .i64 0, .int .i64 0, .int .i64 0]
  rw [hW]
  obtain ⟨z0, z1, z2, z3, z4, z5⟩ := dgC k0
  obtain ⟨y0, y1, y2, y3, _, _, _, _⟩ := mvC k1
  have hp0 := hp.below hb0; have hr0 := hr.below hb0; have hpo0 := hpo.below hb0
  have hg2 : w.heap.size + 2 < W0.heap.size := by omega
  clear hW k0 k1 hp hr hpo
  go_wp2_with fail
  refine (turn_any n A l c root l0 l1 M ms cm W0 hp0 hr0 HM.out (by omega) hll).mono ?_
  rintro e w1 ⟨rfl, hb1⟩
  have hp1 := hp0.below hb1; have hr1 := hr0.below hb1; have hpo1 := hpo0.below hb1
  have z0 := (hb1.cell (lt_of_cell z0)).trans z0
  have z1 := (hb1.cell (lt_of_cell z1)).trans z1
  have z2 := (hb1.cell (lt_of_cell z2)).trans z2
  have z3 := (hb1.cell (lt_of_cell z3)).trans z3
  have z4 := (hb1.cell (lt_of_cell z4)).trans z4
  have z5 := (hb1.cell (lt_of_cell z5)).trans z5
  have y0 := (hb1.cell (lt_of_cell y0)).trans y0
  have y1 := (hb1.cell (lt_of_cell y1)).trans y1
  have y2 := (hb1.cell (lt_of_cell y2)).trans y2
  have y3 := (hb1.cell (lt_of_cell y3)).trans y3
  have k2 := k2.below hb1 (by omega)
  have hbb := hb0.trans (hb1.mono hb0.size)
  clear hp0 hr0 hpo0 hb0 hb1
  go_wp2_with fail
  clear hz
  refine (pvalid_any n A l.length c root l0 l1 M ms.length cm P pool pc sty w1 hpo1 hpl Ha.out h1 h3).mono ?_
  rintro e w2 ⟨rfl, hb2⟩
  have hp2 := hp1.below hb2; have hr2 := hr1.below hb2; have hpo2 := hpo1.below hb2
  have z0 := (hb2.cell (lt_of_cell z0)).trans z0
  have z1 := (hb2.cell (lt_of_cell z1)).trans z1
  have z2 := (hb2.cell (lt_of_cell z2)).trans z2
  have z3 := (hb2.cell (lt_of_cell z3)).trans z3
  have z4 := (hb2.cell (lt_of_cell z4)).trans z4
  have z5 := (hb2.cell (lt_of_cell z5)).trans z5
  have y0 := (hb2.cell (lt_of_cell y0)).trans y0
  have y1 := (hb2.cell (lt_of_cell y1)).trans y1
  have y2 := (hb2.cell (lt_of_cell y2)).trans y2
  have y3 := (hb2.cell (lt_of_cell y3)).trans y3
  have k2 := k2.below hb2 k2.lt
  have hbb := hbb.trans (hb2.mono hbb.size)
  clear hp1 hr1 hpo1 hb2
  go_wp2_with fail
  refine (Legal_any n A l c root l0 l1 M ms cm w2 hp2 hr2 HM.out (by omega) hll Ht.out).mono ?_
  rintro e w3 ⟨AL, cL, rfl, ho3, hb3⟩
  obtain ⟨gL, rfl, hgL, hcL⟩ := ho3.some_ Hne.out
  have hrow := MRow.of_own ho3
  have Hch := Lib.hid (show ∀ wr, Below w2.heap.size w3 wr → ChC (w.heap.size + 1) P pool pc wr from fun wr hb => by
    have hb' : Below w2.heap.size w2 wr := hb3.trans hb
    exact ⟨(hb'.cell (lt_of_cell y0)).trans y0, (hb'.cell (lt_of_cell y1)).trans y1, hpo2.below hb'⟩)
  have HR := Lib.hid hrow
  have hG2 := k2.lt
  have z0 := (hb3.cell (lt_of_cell z0)).trans z0
  have z1 := (hb3.cell (lt_of_cell z1)).trans z1
  have z2 := (hb3.cell (lt_of_cell z2)).trans z2
  have z3 := (hb3.cell (lt_of_cell z3)).trans z3
  have z4 := (hb3.cell (lt_of_cell z4)).trans z4
  have z5 := (hb3.cell (lt_of_cell z5)).trans z5
  have y0 := (hb3.cell (lt_of_cell y0)).trans y0
  have y1 := (hb3.cell (lt_of_cell y1)).trans y1
  have y2 := (hb3.cell (lt_of_cell y2)).trans y2
  have y3 := (hb3.cell (lt_of_cell y3)).trans y3
  have k2 := k2.below hb3 k2.lt
  have hbb := hbb.trans (hb3.mono hbb.size)
  have hs23 := hb3.size
  have Hg := Lib.hid hgL
  clear hp2 hr2 hpo2 hb3 ho3 hrow
  go_wp2_with fail
  refine (delMF_any (w.heap.size + 1) P pool pc gL 0 cL w2.heap.size (legL l ms) w3 Hg.out hs23 Hch.out hpl HR.out (by have := Hlen.out; omega) hcL).mono ?_
  rintro e w4 ⟨rfl, hrm4, hb4⟩
  have z0 := (hb4.cell (p := ⟨w.heap.size, 0, none⟩) (by show w.heap.size < _; omega)).trans z0
  have z1 := (hb4.cell (p := ⟨w.heap.size, 1, none⟩) (by show w.heap.size < _; omega)).trans z1
  have z2 := (hb4.cell (p := ⟨w.heap.size, 2, none⟩) (by show w.heap.size < _; omega)).trans z2
  have z3 := (hb4.cell (p := ⟨w.heap.size, 3, none⟩) (by show w.heap.size < _; omega)).trans z3
  have z4 := (hb4.cell (p := ⟨w.heap.size, 4, none⟩) (by show w.heap.size < _; omega)).trans z4
  have z5 := (hb4.cell (p := ⟨w.heap.size, 5, none⟩) (by show w.heap.size < _; omega)).trans z5
  have y0 := (hb4.cell (p := ⟨w.heap.size + 1, 0, none⟩) (by show w.heap.size + 1 < _; omega)).trans y0
  have y1 := (hb4.cell (p := ⟨w.heap.size + 1, 1, none⟩) (by show w.heap.size + 1 < _; omega)).trans y1
  have y2 := (hb4.cell (p := ⟨w.heap.size + 1, 2, none⟩) (by show w.heap.size + 1 < _; omega)).trans y2
  have y3 := (hb4.cell (p := ⟨w.heap.size + 1, 3, none⟩) (by show w.heap.size + 1 < _; omega)).trans y3
  have k2 := k2.below hb4 (by omega)
  have hbb := hbb.trans (hb4.mono (by omega))
  have hp4 := Hp.out.below hbb; have hr4 := Hr.out.below hbb
  have hFl : ((legL l ms).filter (poolB pool)).length ≤ (legL l ms).length := List.length_filter_le _ _
  have hcf : chooseF l ms pool sty = if ((legL l ms).filter (poolB pool)).length = 0 then (3 - leadr ms, 4, 0, 0) else minF l sty ((legL l ms).filter (poolB pool)) := rfl
  generalize (legL l ms).filter (poolB pool) = F at *
  have Hcf := Lib.hid hcf; have HFl := Lib.hid (Nat.le_trans hFl Hlen.out)
  clear hcf hFl hb4 Hch HR
  go_wp2_with fail
  refine (scripted_any n A l c root l0 l1 M ms cm P pool.length pc sty (some ⟨gL, 0, none⟩) F.length cL w4 hp4 hr4 HM.out (by omega) hll).mono ?_
  rintro e w5 ⟨rfl, hb5⟩
  have z0 := (hb5.cell (lt_of_cell z0)).trans z0
  have z1 := (hb5.cell (lt_of_cell z1)).trans z1
  have z2 := (hb5.cell (lt_of_cell z2)).trans z2
  have z3 := (hb5.cell (lt_of_cell z3)).trans z3
  have z4 := (hb5.cell (lt_of_cell z4)).trans z4
  have z5 := (hb5.cell (lt_of_cell z5)).trans z5
  have y0 := (hb5.cell (lt_of_cell y0)).trans y0
  have y1 := (hb5.cell (lt_of_cell y1)).trans y1
  have y2 := (hb5.cell (lt_of_cell y2)).trans y2
  have y3 := (hb5.cell (lt_of_cell y3)).trans y3
  have k2 := k2.below hb5 k2.lt
  have hbb := hbb.trans (hb5.mono hbb.size)
  have hp5 := hp4.below hb5
  have hrm5 := hrm4.below hb5
  clear hp4 hr4 hrm4 hb5
  go_upto_region 9 with fail
  obtain ⟨w6, hw6, k6, hb6, hs6⟩ := boxedA w5 46 #[.int .i64 0, .int .i64 0, .int .i64 0, .int .i64 0]
  rw [hw6]
  have z0 := (hb6.cell (lt_of_cell z0)).trans z0
  have z1 := (hb6.cell (lt_of_cell z1)).trans z1
  have z2 := (hb6.cell (lt_of_cell z2)).trans z2
  have z3 := (hb6.cell (lt_of_cell z3)).trans z3
  have z4 := (hb6.cell (lt_of_cell z4)).trans z4
  have z5 := (hb6.cell (lt_of_cell z5)).trans z5
  have y0 := (hb6.cell (lt_of_cell y0)).trans y0
  have y1 := (hb6.cell (lt_of_cell y1)).trans y1
  have y2 := (hb6.cell (lt_of_cell y2)).trans y2
  have y3 := (hb6.cell (lt_of_cell y3)).trans y3
  have k2 := k2.below hb6 k2.lt
  have hbb := hbb.trans (hb6.mono hbb.size)
  have hp6 := hp5.below hb6
  have hrm6 := hrm5.below hb6
  obtain ⟨q0, q1, q2, q3, f0, f1, f2, f3⟩ := mvC k2
  have K2 := Lib.hid k2; have Hbb := Lib.hid hbb
  clear k2 hbb hp5 hrm5 hb6 hw6 k6 hs6
  by_cases h0 : F.length = 0
  · have H0 := Lib.hid h0
    have hb0 : ((F.length : Int) == 0) = true := beq_iff_eq.2 (by omega)
    clear h0 hp6 hrm6
    go_wp2_with fail
    have hk4 := set4 (g := w.heap.size + 1 + 1) K2.out (.int .i64 (turnF l0 l1 l ms)) (.int .i64 4) (.int .i64 0) (.int .i64 0)
    obtain ⟨r0, r1, r2, r3, _, _, _, _⟩ := mvC hk4
    refine bodyPost_ret (v := .tuple #[.agg #[.int .i64 (turnF l0 l1 l ms), .int .i64 4, .int .i64 0, .int .i64 0], .int .i64 0]) (by simp [results, Try.results30, go_sem, r0, r1, r2, r3]) rfl ?_
    exact ⟨by rw [Hcf.out, if_pos H0.out, Htl.out], below_set4 Hbb.out (by omega) _ _ _ _⟩
  · have H0 := Lib.hid h0
    have hb0 : ((F.length : Int) == 0) = false := beq_eq_false_iff_ne.2 (by omega)
    have hnF : F ≠ [] := fun e => h0 (by rw [e]; rfl)
    clear h0
    go_wp2_with fail
    refine (style_any n A l c root l0 l1 M ms.length cm sty w6 hp6 h1 h3).mono ?_
    rintro e w7 ⟨C, rfl, hC, hb7⟩
    have k7 := K2.out.below hb7 K2.out.lt
    have hbb7 := Hbb.out.trans (hb7.mono Hbb.out.size)
    have hrm7 := hrm6.below hb7
    clear hp6 hrm6 hb7 K2 Hbb q0 q1 q2 q3 f0 f1 f2 f3
    go_wp2_with fail
    refine (minM_any sty C l cL (some ⟨gL, 0, none⟩) F w7 hC (by omega) hrm7 hnF (by have := HFl.out; omega)).mono ?_
    rintro e w8 ⟨rfl, hb8⟩
    have k8 := k7.below hb8 k7.lt
    obtain ⟨q0, q1, q2, q3, f0, f1, f2, f3⟩ := mvC k8
    have K8 := Lib.hid k8
    have Hb8 := Lib.hid (hbb7.trans (hb8.mono hbb7.size))
    clear k7 hbb7 hrm7 hb8 k8 hC
    go_wp2_with fail
    have hk4 := set4 (g := w.heap.size + 1 + 1) K8.out (.int .i64 (minF l sty F).1) (.int .i64 (minF l sty F).2.1) (.int .i64 (minF l sty F).2.2.1) (.int .i64 (minF l sty F).2.2.2)
    obtain ⟨r0, r1, r2, r3, _, _, _, _⟩ := mvC hk4
    refine bodyPost_ret (v := .tuple #[.agg #[.int .i64 (minF l sty F).1, .int .i64 (minF l sty F).2.1, .int .i64 (minF l sty F).2.2.1, .int .i64 (minF l sty F).2.2.2], .int .i64 0]) (by simp [results, Try.results30, go_sem, r0, r1, r2, r3]) rfl ?_
    exact ⟨by rw [Hcf.out, if_neg H0.out], below_set4 Hb8.out (by omega) _ _ _ _⟩
end Go.Proofs.Ythkknlnfdckdfaa
