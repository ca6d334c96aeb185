/- Package protocol: end, End, Turn, Legal. -/
import Derived.Test.YthkknlnfdckdfaaPt3
namespace Go.Proofs.Ythkknlnfdckdfaa
open Go.ChangeShapes Go.WideShapes Go.ChangeAt Go.RowKit

theorem set2 {w : World} {g : Nat} {t : TypeId} {x y : Value} (h : Blk w g t #[x, y]) (x' y' : Value) : Blk ((w.setCell ⟨g, 0, none⟩ x').setCell ⟨g, 1, none⟩ y') g t #[x', y'] := (h.set_ 0 x').set_ 1 y'
theorem below_set2 {B : Nat} {w w' : World} {g : Nat} (h : Below B w w') (hg : B ≤ g) (x y : Value) : Below B w ((w'.setCell ⟨g, 0, none⟩ x).setCell ⟨g, 1, none⟩ y) := (h.setCell (p := ⟨g, 0, none⟩) hg x).setCell (p := ⟨g, 1, none⟩) hg y
theorem madeR_hit {ms : List Mv} {b : Int} {j : Nat} (h : ((mv ms j).1 == b) = true) : madeR ms b (j + 1) = madeR ms b j + 1 := by
  unfold madeR; rw [if_pos (by rwa [beq_iff_eq] at h)]
  cases j <;> rfl
theorem madeR_miss {ms : List Mv} {b : Int} {j : Nat} (h : ((mv ms j).1 == b) = false) : madeR ms b (j + 1) = madeR ms b j := by
  rw [madeR, if_neg (by rwa [beq_eq_false_iff_ne] at h)]; rfl
set_option maxRecDepth 100000 in
set_option maxHeartbeats 8000000 in
theorem end_any (N : Int) (A : Option Addr) (l : List (Int × Int)) (c : Nat) (root l0 l1 : Int) (M : Option Addr) (ms : List Mv) (cm : Nat) (S : Option Addr) (sk sc gL : Nat) (w : World) (hp : RP w A l) (hr : RM w M ms) (hm : OkM ms) (hl : ms.length ≤ 300) (hll : l.length ≤ 1600) (hrl : RowB w gL ms.length (ldF ms)) :
    Calls Try.prog 56 #[.agg #[.int .i64 N, .slice A l.length c, .int .i64 root, .int .i64 l0, .int .i64 l1, .slice M ms.length cm, .slice S sk sc, .int .i64 (leadr ms), .slice (some ⟨gL, 0, none⟩) ms.length ms.length]] w (RetB (.agg #[.int .i64 (endF l0 l1 l ms).1, .int .i64 (endF l0 l1 l ms).2]) w) := by
  have hlg : ∀ wx, Below w.heap.size w wx → Calls Try.prog 61 #[.agg #[.int .i64 N, .slice A l.length c, .int .i64 root, .int .i64 l0, .int .i64 l1, .slice M ms.length cm, .slice S sk sc, .int .i64 (leadr ms), .slice (some ⟨gL, 0, none⟩) ms.length ms.length]] wx (RetMn (legL l ms) wx) := fun wx hb =>
    tLegal_any N A l c root l0 l1 M ms cm S sk sc gL wx (hp.below hb) (hr.below hb) hm hl hll (hrl.below hb)
  have hpos := hm.pos
  have HM := Lib.hid hm
  have Hr := Lib.hid hr
  clear hm hp hrl hr
  rcases leadr_12 ms with h | h
  · have hE : endF l0 l1 l ms = if (lastM ms).2.1 = 4 then (3 - (lastM ms).1, 3) else if 200 ≤ ms.length then (1, 4) else if l1 ≤ (madeN ms 2 : Int) then (1, 2) else if (legL l ms).length = 0 then (1, 1) else (0, 0) := by
      unfold endF; rw [h]; rfl
    rw [h] at hlg ⊢
    clear h
    have HE := Lib.hid hE; have Hlg := Lib.hid hlg
    clear hE hlg
    go_enter Try.func56, Try.ntmps56
    go_upto_region 1 with fail
    obtain ⟨W0, hW, k0, kt, hb0, hs0⟩ := boxed2A w 102 64 #[.int .i64 N, .slice A l.length c, .int .i64 root, .int .i64 l0, .int .i64 l1, .slice M ms.length cm, .slice S sk sc, .int .i64 1, .slice (some ⟨gL, 0, none⟩) ms.length ms.length] #[.int .i64 0, .int .i64 0]
    rw [hW]
    obtain ⟨z0, z1, z2, z3, z4, z5, z6, z7, z8⟩ := tbC k0
    have hg0 : w.heap.size < W0.heap.size := by omega
    have hg1 : w.heap.size + 1 < W0.heap.size := by omega
    have Hb0 := Lib.hid hb0; have Hkt := Lib.hid kt
    clear hW k0 kt hb0 hs0
    have hot : ∀ wx, Calls Try.prog 43 #[.int .i64 1] wx (Ret (.int .i64 2) wx) := fun wx => other_any 1 wx (by decide)
    go_wp2_with fail
    go_loopw [4, 13] (fun s t wr => ∃ j : Nat, j ≤ ms.length ∧ t = .int .i64 j ∧ s = .int .i64 (madeR ms 2 j : Nat) ∧ Below W0.heap.size W0 wr) (fun _ t _ => ms.length - (intOf t).toNat)
    case atStart => exact ⟨0, Nat.zero_le _, rfl, rfl, Below.refl _ _⟩
    case round =>
      obtain ⟨j, hj, rfl, rfl, hbl⟩ := hrel
      by_cases hlt : j < ms.length
      case pos =>
        have hjl : (j : Int) < (ms.length : Int) := by omega
        have hmj := madeR_le ms 2 j
        obtain ⟨b, o, rfl, e0, e1, e2, e3⟩ := (Hr.out.below (Hb0.out.trans (hbl.mono Hb0.out.size))) j hlt
        have y7 := (hbl.cell (lt_of_cell z7)).trans z7
        go_upto_region 6 with fail
        obtain ⟨wa, hwa, ka, hba, hsa⟩ := boxedA wr 46 #[.int .i64 (mv ms j).1, .int .i64 (mv ms j).2.1, .int .i64 (mv ms j).2.2.1, .int .i64 (mv ms j).2.2.2]
        rw [hwa]
        have a0 : wa.cell? ⟨wr.heap.size, 0, none⟩ = some (.int .i64 (mv ms j).1) := ka.cell 0
        have x7 := (hba.cell (lt_of_cell y7)).trans y7
        have hbla := hbl.trans (hba.mono hbl.size)
        have Hbl := Lib.hid hbla
        clear hwa ka hba hsa hbla hbl y7 e0 e1 e2 e3
        generalize wr.heap.size = ga at *
        go_quiet ((refine (hot _).mono ?_; rintro e w' ⟨rfl, rfl⟩; exact ⟨rfl, _, rfl⟩))
        cases hby : ((mv ms j).1 == 2)
        · have Hm := Lib.hid (madeR_miss hby)
          go_wp2_with fail
          go_roundw
          case rel => exact ⟨j + 1, by omega, by go_num, by rw [Hm.out], below_drewN Hbl.out _⟩
          case measure => simp [intOf]; omega
        · have Hm := Lib.hid (madeR_hit hby)
          go_wp2_with fail
          go_roundw
          case rel => exact ⟨j + 1, by omega, by go_num, by rw [Hm.out]; go_num, below_drewN Hbl.out _⟩
          case measure => simp [intOf]; omega
      case neg =>
      obtain rfl : j = ms.length := by omega
      have hn1 : IntKind.i64.wrap ((ms.length : Int) - 1) = ((ms.length - 1 : Nat) : Int) := by rw [IntKind.wrap_i64]; omega
      have hnz : (0 : Int) ≤ ((ms.length - 1 : Nat) : Int) := by omega
      have hnl : ((ms.length - 1 : Nat) : Int) < (ms.length : Int) := by omega
      have hln : ms.length - 1 < ms.length := by omega
      obtain ⟨b, o, rfl, e0, e1, e2, e3⟩ := (Hr.out.below (Hb0.out.trans (hbl.mono Hb0.out.size))) _ hln
      have hwho := HM.out.who _ hln
      have y0 := (hbl.cell (lt_of_cell z0)).trans z0
      have y1 := (hbl.cell (lt_of_cell z1)).trans z1
      have y2 := (hbl.cell (lt_of_cell z2)).trans z2
      have y3 := (hbl.cell (lt_of_cell z3)).trans z3
      have y4 := (hbl.cell (lt_of_cell z4)).trans z4
      have y5 := (hbl.cell (lt_of_cell z5)).trans z5
      have y6 := (hbl.cell (lt_of_cell z6)).trans z6
      have y7 := (hbl.cell (lt_of_cell z7)).trans z7
      have y8 := (hbl.cell (lt_of_cell z8)).trans z8
      have hkw := Hkt.out.below hbl hg1
      go_upto_region 10 with fail
      obtain ⟨wa, hwa, ka, hba, hsa⟩ := boxedA wr 46 #[.int .i64 (mv ms (ms.length - 1)).1, .int .i64 (mv ms (ms.length - 1)).2.1, .int .i64 (mv ms (ms.length - 1)).2.2.1, .int .i64 (mv ms (ms.length - 1)).2.2.2]
      rw [hwa]
      have a0 : wa.cell? ⟨wr.heap.size, 0, none⟩ = some (.int .i64 (mv ms (ms.length - 1)).1) := ka.cell 0
      have a1 : wa.cell? ⟨wr.heap.size, 1, none⟩ = some (.int .i64 (mv ms (ms.length - 1)).2.1) := ka.cell 1
      have x0 := (hba.cell (lt_of_cell y0)).trans y0
      have x1 := (hba.cell (lt_of_cell y1)).trans y1
      have x2 := (hba.cell (lt_of_cell y2)).trans y2
      have x3 := (hba.cell (lt_of_cell y3)).trans y3
      have x4 := (hba.cell (lt_of_cell y4)).trans y4
      have x5 := (hba.cell (lt_of_cell y5)).trans y5
      have x6 := (hba.cell (lt_of_cell y6)).trans y6
      have x7 := (hba.cell (lt_of_cell y7)).trans y7
      have x8 := (hba.cell (lt_of_cell y8)).trans y8
      have hkwa := hkw.below hba hkw.lt
      obtain ⟨_, _, f0, f1⟩ := hkwa.two
      obtain ⟨q0, q1, _, _⟩ := hkwa.two
      have hbwa : Below w.heap.size w wa := Hb0.out.trans ((hbl.trans (hba.mono hbl.size)).mono Hb0.out.size)
      have Hka := Lib.hid hkwa; have Hba := Lib.hid hbwa
      clear hwa ka hba hsa hbl hkw hkwa hbwa e0 e1 e2 e3 y0 y1 y2 y3 y4 y5 y6 y7 y8
      have hlm : lastM ms = mv ms (ms.length - 1) := rfl
      rw [← hlm] at a0 a1 hwho
      rw [← hlm]
      clear hlm
      generalize wr.heap.size = ga at *
      cases h4 : ((lastM ms).2.1 == 4)
      case true =>
        have H4 := Lib.hid (beq_iff_eq.1 h4)
        go_wp2_with fail
        refine (other_any (lastM ms).1 wa hwho).mono ?_
        rintro e w1 ⟨rfl, rfl⟩
        go_wp2_with fail
        have hk2 := set2 Hka.out (.int .i64 (3 - (lastM ms).1)) (.int .i64 3)
        obtain ⟨r0, r1, _, _⟩ := hk2.two
        refine bodyPost_ret (v := .agg #[.int .i64 (3 - (lastM ms).1), .int .i64 3]) (by simp [results, Try.results56, go_sem, r0, r1]) rfl ?_
        exact ⟨by rw [HE.out, if_pos H4.out], below_set2 Hba.out (Nat.le_succ _) _ _⟩
      case false =>
      have H4 := Lib.hid (beq_eq_false_iff_ne.1 h4)
      by_cases h2 : 200 ≤ ms.length
      · have h2' : (200 : Int) ≤ (ms.length : Int) := by omega
        have h2d : decide ((200 : Int) ≤ (ms.length : Int)) = true := decide_eq_true h2'
        have H2 := Lib.hid h2
        clear h2
        go_wp2_with fail
        have hk2 := set2 Hka.out (.int .i64 1) (.int .i64 4)
        obtain ⟨r0, r1, _, _⟩ := hk2.two
        refine bodyPost_ret (v := .agg #[.int .i64 1, .int .i64 4]) (by simp [results, Try.results56, go_sem, r0, r1]) rfl ?_
        exact ⟨by rw [HE.out, if_neg H4.out, if_pos H2.out], below_set2 Hba.out (Nat.le_succ _) _ _⟩
      have h2' : ¬ (200 : Int) ≤ (ms.length : Int) := by omega
      have h2d : decide ((200 : Int) ≤ (ms.length : Int)) = false := decide_eq_false h2'
      have H2 := Lib.hid h2
      clear h2
      by_cases h3 : l1 ≤ (madeN ms 2 : Int)
      · have h3' : l1 ≤ (madeR ms 2 ms.length : Int) := h3
        have h3d : decide (l1 ≤ (madeR ms 2 ms.length : Int)) = true := decide_eq_true h3'
        have H3 := Lib.hid h3
        clear h3
        go_wp2_with fail
        refine (hot wa).mono ?_
        rintro e w1 ⟨rfl, rfl⟩
        go_wp2_with fail
        have hk2 := set2 Hka.out (.int .i64 1) (.int .i64 2)
        obtain ⟨r0, r1, _, _⟩ := hk2.two
        refine bodyPost_ret (v := .agg #[.int .i64 1, .int .i64 2]) (by simp [results, Try.results56, go_sem, r0, r1]) rfl ?_
        exact ⟨by rw [HE.out, if_neg H4.out, if_neg H2.out, if_pos H3.out], below_set2 Hba.out (Nat.le_succ _) _ _⟩
      have h3' : ¬ l1 ≤ (madeR ms 2 ms.length : Int) := h3
      have h3d : decide (l1 ≤ (madeR ms 2 ms.length : Int)) = false := decide_eq_false h3'
      have H3 := Lib.hid h3
      clear h3
      go_wp2_with fail
      refine (hot wa).mono ?_
      rintro e w1 ⟨rfl, rfl⟩
      go_wp2_with fail
      refine (Hlg.out wa Hba.out).mono ?_
      rintro e w2 ⟨A4, c4, rfl, _, hb2⟩
      have hk2' := Hka.out.below hb2 Hka.out.lt
      obtain ⟨q0, q1, f0, f1⟩ := hk2'.two
      have x7 := (hb2.cell (lt_of_cell x7)).trans x7
      have Hk2 := Lib.hid hk2'; have Hb2 := Lib.hid (Hba.out.trans (hb2.mono Hba.out.size))
      clear hk2' hb2
      cases h5 : (((legL l ms).length : Int) == 0)
      · have h5' := beq_eq_false_iff_ne.1 h5
        have H5 := Lib.hid (show ¬ (legL l ms).length = 0 by omega)
        clear h5'
        go_wp2_with fail
        have hk2 := set2 Hk2.out (.int .i64 0) (.int .i64 0)
        obtain ⟨r0, r1, _, _⟩ := hk2.two
        refine bodyPost_ret (v := .agg #[.int .i64 0, .int .i64 0]) (by simp [results, Try.results56, go_sem, r0, r1]) rfl ?_
        exact ⟨by rw [HE.out, if_neg H4.out, if_neg H2.out, if_neg (Int.not_le.2 H3.out), if_neg H5.out], below_set2 Hb2.out (Nat.le_succ _) _ _⟩
      · have h5' := beq_iff_eq.1 h5
        have H5 := Lib.hid (show (legL l ms).length = 0 by omega)
        clear h5'
        go_wp2_with fail
        have hk2 := set2 Hk2.out (.int .i64 1) (.int .i64 1)
        obtain ⟨r0, r1, _, _⟩ := hk2.two
        refine bodyPost_ret (v := .agg #[.int .i64 1, .int .i64 1]) (by simp [results, Try.results56, go_sem, r0, r1]) rfl ?_
        exact ⟨by rw [HE.out, if_neg H4.out, if_neg H2.out, if_neg (Int.not_le.2 H3.out), if_pos H5.out], below_set2 Hb2.out (Nat.le_succ _) _ _⟩
  · have hE : endF l0 l1 l ms = if (lastM ms).2.1 = 4 then (3 - (lastM ms).1, 3) else if 200 ≤ ms.length then (2, 4) else if l0 ≤ (madeN ms 1 : Int) then (2, 2) else if (legL l ms).length = 0 then (2, 1) else (0, 0) := by
      unfold endF; rw [h]; rfl
    rw [h] at hlg ⊢
    clear h
    have HE := Lib.hid hE; have Hlg := Lib.hid hlg
    clear hE hlg
    go_enter Try.func56, Try.ntmps56
    go_upto_region 1 with fail
    obtain ⟨W0, hW, k0, kt, hb0, hs0⟩ := boxed2A w 102 64 #[.int .i64 N, .slice A l.length c, .int .i64 root, .int .i64 l0, .int .i64 l1, .slice M ms.length cm, .slice S sk sc, .int .i64 2, .slice (some ⟨gL, 0, none⟩) ms.length ms.length] #[.int .i64 0, .int .i64 0]
    rw [hW]
    obtain ⟨z0, z1, z2, z3, z4, z5, z6, z7, z8⟩ := tbC k0
    have hg0 : w.heap.size < W0.heap.size := by omega
    have hg1 : w.heap.size + 1 < W0.heap.size := by omega
    have Hb0 := Lib.hid hb0; have Hkt := Lib.hid kt
    clear hW k0 kt hb0 hs0
    have hot : ∀ wx, Calls Try.prog 43 #[.int .i64 2] wx (Ret (.int .i64 1) wx) := fun wx => other_any 2 wx (by decide)
    go_wp2_with fail
    go_loopw [4, 13] (fun s t wr => ∃ j : Nat, j ≤ ms.length ∧ t = .int .i64 j ∧ s = .int .i64 (madeR ms 1 j : Nat) ∧ Below W0.heap.size W0 wr) (fun _ t _ => ms.length - (intOf t).toNat)
    case atStart => exact ⟨0, Nat.zero_le _, rfl, rfl, Below.refl _ _⟩
    case round =>
      obtain ⟨j, hj, rfl, rfl, hbl⟩ := hrel
      by_cases hlt : j < ms.length
      case pos =>
        have hjl : (j : Int) < (ms.length : Int) := by omega
        have hmj := madeR_le ms 1 j
        obtain ⟨b, o, rfl, e0, e1, e2, e3⟩ := (Hr.out.below (Hb0.out.trans (hbl.mono Hb0.out.size))) j hlt
        have y7 := (hbl.cell (lt_of_cell z7)).trans z7
        go_upto_region 6 with fail
        obtain ⟨wa, hwa, ka, hba, hsa⟩ := boxedA wr 46 #[.int .i64 (mv ms j).1, .int .i64 (mv ms j).2.1, .int .i64 (mv ms j).2.2.1, .int .i64 (mv ms j).2.2.2]
        rw [hwa]
        have a0 : wa.cell? ⟨wr.heap.size, 0, none⟩ = some (.int .i64 (mv ms j).1) := ka.cell 0
        have x7 := (hba.cell (lt_of_cell y7)).trans y7
        have hbla := hbl.trans (hba.mono hbl.size)
        have Hbl := Lib.hid hbla
        clear hwa ka hba hsa hbla hbl y7 e0 e1 e2 e3
        generalize wr.heap.size = ga at *
        go_quiet ((refine (hot _).mono ?_; rintro e w' ⟨rfl, rfl⟩; exact ⟨rfl, _, rfl⟩))
        cases hby : ((mv ms j).1 == 1)
        · have Hm := Lib.hid (madeR_miss hby)
          go_wp2_with fail
          go_roundw
          case rel => exact ⟨j + 1, by omega, by go_num, by rw [Hm.out], below_drewN Hbl.out _⟩
          case measure => simp [intOf]; omega
        · have Hm := Lib.hid (madeR_hit hby)
          go_wp2_with fail
          go_roundw
          case rel => exact ⟨j + 1, by omega, by go_num, by rw [Hm.out]; go_num, below_drewN Hbl.out _⟩
          case measure => simp [intOf]; omega
      case neg =>
      obtain rfl : j = ms.length := by omega
      have hn1 : IntKind.i64.wrap ((ms.length : Int) - 1) = ((ms.length - 1 : Nat) : Int) := by rw [IntKind.wrap_i64]; omega
      have hnz : (0 : Int) ≤ ((ms.length - 1 : Nat) : Int) := by omega
      have hnl : ((ms.length - 1 : Nat) : Int) < (ms.length : Int) := by omega
      have hln : ms.length - 1 < ms.length := by omega
      obtain ⟨b, o, rfl, e0, e1, e2, e3⟩ := (Hr.out.below (Hb0.out.trans (hbl.mono Hb0.out.size))) _ hln
      have hwho := HM.out.who _ hln
      have y0 := (hbl.cell (lt_of_cell z0)).trans z0
      have y1 := (hbl.cell (lt_of_cell z1)).trans z1
      have y2 := (hbl.cell (lt_of_cell z2)).trans z2
      have y3 := (hbl.cell (lt_of_cell z3)).trans z3
      have y4 := (hbl.cell (lt_of_cell z4)).trans z4
      have y5 := (hbl.cell (lt_of_cell z5)).trans z5
      have y6 := (hbl.cell (lt_of_cell z6)).trans z6
      have y7 := (hbl.cell (lt_of_cell z7)).trans z7
      have y8 := (hbl.cell (lt_of_cell z8)).trans z8
      have hkw := Hkt.out.below hbl hg1
      go_upto_region 10 with fail
      obtain ⟨wa, hwa, ka, hba, hsa⟩ := boxedA wr 46 #[.int .i64 (mv ms (ms.length - 1)).1, .int .i64 (mv ms (ms.length - 1)).2.1, .int .i64 (mv ms (ms.length - 1)).2.2.1, .int .i64 (mv ms (ms.length - 1)).2.2.2]
      rw [hwa]
      have a0 : wa.cell? ⟨wr.heap.size, 0, none⟩ = some (.int .i64 (mv ms (ms.length - 1)).1) := ka.cell 0
      have a1 : wa.cell? ⟨wr.heap.size, 1, none⟩ = some (.int .i64 (mv ms (ms.length - 1)).2.1) := ka.cell 1
      have x0 := (hba.cell (lt_of_cell y0)).trans y0
      have x1 := (hba.cell (lt_of_cell y1)).trans y1
      have x2 := (hba.cell (lt_of_cell y2)).trans y2
      have x3 := (hba.cell (lt_of_cell y3)).trans y3
      have x4 := (hba.cell (lt_of_cell y4)).trans y4
      have x5 := (hba.cell (lt_of_cell y5)).trans y5
      have x6 := (hba.cell (lt_of_cell y6)).trans y6
      have x7 := (hba.cell (lt_of_cell y7)).trans y7
      have x8 := (hba.cell (lt_of_cell y8)).trans y8
      have hkwa := hkw.below hba hkw.lt
      obtain ⟨_, _, f0, f1⟩ := hkwa.two
      obtain ⟨q0, q1, _, _⟩ := hkwa.two
      have hbwa : Below w.heap.size w wa := Hb0.out.trans ((hbl.trans (hba.mono hbl.size)).mono Hb0.out.size)
      have Hka := Lib.hid hkwa; have Hba := Lib.hid hbwa
      clear hwa ka hba hsa hbl hkw hkwa hbwa e0 e1 e2 e3 y0 y1 y2 y3 y4 y5 y6 y7 y8
      have hlm : lastM ms = mv ms (ms.length - 1) := rfl
      rw [← hlm] at a0 a1 hwho
      rw [← hlm]
      clear hlm
      generalize wr.heap.size = ga at *
      cases h4 : ((lastM ms).2.1 == 4)
      case true =>
        have H4 := Lib.hid (beq_iff_eq.1 h4)
        go_wp2_with fail
        refine (other_any (lastM ms).1 wa hwho).mono ?_
        rintro e w1 ⟨rfl, rfl⟩
        go_wp2_with fail
        have hk2 := set2 Hka.out (.int .i64 (3 - (lastM ms).1)) (.int .i64 3)
        obtain ⟨r0, r1, _, _⟩ := hk2.two
        refine bodyPost_ret (v := .agg #[.int .i64 (3 - (lastM ms).1), .int .i64 3]) (by simp [results, Try.results56, go_sem, r0, r1]) rfl ?_
        exact ⟨by rw [HE.out, if_pos H4.out], below_set2 Hba.out (Nat.le_succ _) _ _⟩
      case false =>
      have H4 := Lib.hid (beq_eq_false_iff_ne.1 h4)
      by_cases h2 : 200 ≤ ms.length
      · have h2' : (200 : Int) ≤ (ms.length : Int) := by omega
        have h2d : decide ((200 : Int) ≤ (ms.length : Int)) = true := decide_eq_true h2'
        have H2 := Lib.hid h2
        clear h2
        go_wp2_with fail
        have hk2 := set2 Hka.out (.int .i64 2) (.int .i64 4)
        obtain ⟨r0, r1, _, _⟩ := hk2.two
        refine bodyPost_ret (v := .agg #[.int .i64 2, .int .i64 4]) (by simp [results, Try.results56, go_sem, r0, r1]) rfl ?_
        exact ⟨by rw [HE.out, if_neg H4.out, if_pos H2.out], below_set2 Hba.out (Nat.le_succ _) _ _⟩
      have h2' : ¬ (200 : Int) ≤ (ms.length : Int) := by omega
      have h2d : decide ((200 : Int) ≤ (ms.length : Int)) = false := decide_eq_false h2'
      have H2 := Lib.hid h2
      clear h2
      by_cases h3 : l0 ≤ (madeN ms 1 : Int)
      · have h3' : l0 ≤ (madeR ms 1 ms.length : Int) := h3
        have h3d : decide (l0 ≤ (madeR ms 1 ms.length : Int)) = true := decide_eq_true h3'
        have H3 := Lib.hid h3
        clear h3
        go_wp2_with fail
        refine (hot wa).mono ?_
        rintro e w1 ⟨rfl, rfl⟩
        go_wp2_with fail
        have hk2 := set2 Hka.out (.int .i64 2) (.int .i64 2)
        obtain ⟨r0, r1, _, _⟩ := hk2.two
        refine bodyPost_ret (v := .agg #[.int .i64 2, .int .i64 2]) (by simp [results, Try.results56, go_sem, r0, r1]) rfl ?_
        exact ⟨by rw [HE.out, if_neg H4.out, if_neg H2.out, if_pos H3.out], below_set2 Hba.out (Nat.le_succ _) _ _⟩
      have h3' : ¬ l0 ≤ (madeR ms 1 ms.length : Int) := h3
      have h3d : decide (l0 ≤ (madeR ms 1 ms.length : Int)) = false := decide_eq_false h3'
      have H3 := Lib.hid h3
      clear h3
      go_wp2_with fail
      refine (hot wa).mono ?_
      rintro e w1 ⟨rfl, rfl⟩
      go_wp2_with fail
      refine (Hlg.out wa Hba.out).mono ?_
      rintro e w2 ⟨A4, c4, rfl, _, hb2⟩
      have hk2' := Hka.out.below hb2 Hka.out.lt
      obtain ⟨q0, q1, f0, f1⟩ := hk2'.two
      have x7 := (hb2.cell (lt_of_cell x7)).trans x7
      have Hk2 := Lib.hid hk2'; have Hb2 := Lib.hid (Hba.out.trans (hb2.mono Hba.out.size))
      clear hk2' hb2
      cases h5 : (((legL l ms).length : Int) == 0)
      · have h5' := beq_eq_false_iff_ne.1 h5
        have H5 := Lib.hid (show ¬ (legL l ms).length = 0 by omega)
        clear h5'
        go_wp2_with fail
        have hk2 := set2 Hk2.out (.int .i64 0) (.int .i64 0)
        obtain ⟨r0, r1, _, _⟩ := hk2.two
        refine bodyPost_ret (v := .agg #[.int .i64 0, .int .i64 0]) (by simp [results, Try.results56, go_sem, r0, r1]) rfl ?_
        exact ⟨by rw [HE.out, if_neg H4.out, if_neg H2.out, if_neg (Int.not_le.2 H3.out), if_neg H5.out], below_set2 Hb2.out (Nat.le_succ _) _ _⟩
      · have h5' := beq_iff_eq.1 h5
        have H5 := Lib.hid (show (legL l ms).length = 0 by omega)
        clear h5'
        go_wp2_with fail
        have hk2 := set2 Hk2.out (.int .i64 2) (.int .i64 1)
        obtain ⟨r0, r1, _, _⟩ := hk2.two
        refine bodyPost_ret (v := .agg #[.int .i64 2, .int .i64 1]) (by simp [results, Try.results56, go_sem, r0, r1]) rfl ?_
        exact ⟨by rw [HE.out, if_neg H4.out, if_neg H2.out, if_neg (Int.not_le.2 H3.out), if_pos H5.out], below_set2 Hb2.out (Nat.le_succ _) _ _⟩
theorem run_field1 (x y : Int) (w : World) : (Instr.field 64 (.agg #[.int .i64 x, .int .i64 y]) 1).run Try.prog w = .ok (.int .i64 y) w := by
  unfold Instr.field
  go_simp
  simp [asAgg]
theorem run_field7 (N root l0 l1 ld : Int) (A M S L : Option Addr) (k c m cm sk sc lk lc : Nat) (w : World) : (Instr.field 102 (.agg #[.int .i64 N, .slice A k c, .int .i64 root, .int .i64 l0, .int .i64 l1, .slice M m cm, .slice S sk sc, .int .i64 ld, .slice L lk lc]) 2).run Try.prog w = .ok (.int .i64 ld) w := by
  unfold Instr.field
  go_simp
  simp [asAgg]
set_option maxRecDepth 100000 in
set_option maxHeartbeats 4000000 in
theorem End_any (N : Int) (A : Option Addr) (l : List (Int × Int)) (c : Nat) (root l0 l1 : Int) (M : Option Addr) (ms : List Mv) (cm : Nat) (w : World) (hp : RP w A l) (hr : RM w M ms) (hm : OkM ms) (hl : ms.length ≤ 300) (hll : l.length ≤ 1600) :
    Calls Try.prog 39 #[.agg #[.int .i64 N, .slice A l.length c, .int .i64 root, .int .i64 l0, .int .i64 l1, .slice M ms.length cm]] w (RetB (.agg #[.int .i64 (endF l0 l1 l ms).1, .int .i64 (endF l0 l1 l ms).2]) w) := by
  have hpos := hm.pos
  have HM := Lib.hid hm
  clear hm
  go_enter Try.func39, Try.ntmps39
  go_upto_region 1 with fail
  obtain ⟨W0, hW, k0, kt, hb0, hs0⟩ := boxed2A w 34 64 #[.int .i64 N, .slice A l.length c, .int .i64 root, .int .i64 l0, .int .i64 l1, .slice M ms.length cm] #[.int .i64 0, .int .i64 0]
  rw [hW]
  obtain ⟨z0, z1, z2, z3, z4, z5⟩ := dgC k0
  have hne : ((ms.length : Int) == 0) = false := beq_eq_false_iff_ne.2 (by omega)
  have hp0 := hp.below hb0; have hr0 := hr.below hb0
  have Hb0 := Lib.hid hb0; have Hkt := Lib.hid kt
  clear hW k0 kt hb0 hs0 hp hr
  go_wp2_with fail
  refine (of_any N A l.length c root l0 l1 M ms cm W0 hr0 HM.out (by omega)).mono ?_
  rintro e w1 ⟨gS, gL, rfl, _, hrl, hb1⟩
  have hp1 := hp0.below hb1; have hr1 := hr0.below hb1
  have hk1 := Hkt.out.below hb1 Hkt.out.lt
  have hbb := Hb0.out.trans (hb1.mono Hb0.out.size)
  clear hp0 hr0 Hkt Hb0 hb1 z0 z1 z2 z3 z4 z5
  go_wp2_with fail
  refine (end_any N A l c root l0 l1 M ms cm (some ⟨gS, 0, none⟩) ms.length ms.length gL w1 hp1 hr1 HM.out hl hll hrl).mono ?_
  rintro e w2 ⟨rfl, hb2⟩
  have hk2 := hk1.below hb2 hk1.lt
  obtain ⟨q0, q1, f0, f1⟩ := hk2.two
  have Hk2 := Lib.hid hk2
  have Hb2 := Lib.hid (hbb.trans (hb2.mono hbb.size))
  clear hp1 hr1 hk1 hbb hrl hb2 hk2
  go_wp2_with fail
  have hk3 := set2 Hk2.out (.int .i64 (endF l0 l1 l ms).1) (.int .i64 (endF l0 l1 l ms).2)
  obtain ⟨r0, r1, _, _⟩ := hk3.two
  refine bodyPost_ret (v := .agg #[.int .i64 (endF l0 l1 l ms).1, .int .i64 (endF l0 l1 l ms).2]) (by simp [results, Try.results39, go_sem, r0, r1]) rfl ?_
  exact ⟨rfl, below_set2 Hb2.out (Nat.le_succ _) _ _⟩
set_option maxRecDepth 100000 in
set_option maxHeartbeats 4000000 in
theorem turn_any (N : Int) (A : Option Addr) (l : List (Int × Int)) (c : Nat) (root l0 l1 : Int) (M : Option Addr) (ms : List Mv) (cm : Nat) (w : World) (hp : RP w A l) (hr : RM w M ms) (hm : OkM ms) (hl : ms.length ≤ 300) (hll : l.length ≤ 1600) :
    Calls Try.prog 29 #[.agg #[.int .i64 N, .slice A l.length c, .int .i64 root, .int .i64 l0, .int .i64 l1, .slice M ms.length cm]] w (RetB (.int .i64 (turnF l0 l1 l ms)) w) := by
  have hpos := hm.pos
  have HM := Lib.hid hm
  clear hm
  go_enter Try.func29, Try.ntmps29
  go_upto_region 1 with fail
  obtain ⟨W0, hW, k0, hb0, hs0⟩ := boxedA w 34 #[.int .i64 N, .slice A l.length c, .int .i64 root, .int .i64 l0, .int .i64 l1, .slice M ms.length cm]
  rw [hW]
  obtain ⟨z0, z1, z2, z3, z4, z5⟩ := dgC k0
  have hne : ((ms.length : Int) == 0) = false := beq_eq_false_iff_ne.2 (by omega)
  have hp0 := hp.below hb0; have hr0 := hr.below hb0
  have Hb0 := Lib.hid hb0
  clear hW k0 hb0 hs0 hp hr
  go_wp2_with fail
  refine (End_any N A l c root l0 l1 M ms cm W0 hp0 hr0 HM.out hl hll).mono ?_
  rintro e w1 ⟨rfl, hb1⟩
  have hr1 := hr0.below hb1
  have y0 := (hb1.cell (lt_of_cell z0)).trans z0
  have y1 := (hb1.cell (lt_of_cell z1)).trans z1
  have y2 := (hb1.cell (lt_of_cell z2)).trans z2
  have y3 := (hb1.cell (lt_of_cell z3)).trans z3
  have y4 := (hb1.cell (lt_of_cell z4)).trans z4
  have y5 := (hb1.cell (lt_of_cell z5)).trans z5
  have Hbb := Lib.hid (Hb0.out.trans (hb1.mono Hb0.out.size))
  have hf := fun w => run_field1 (endF l0 l1 l ms).1 (endF l0 l1 l ms).2 w
  clear hp0 hr0 Hb0 hb1 z0 z1 z2 z3 z4 z5
  by_cases he : (endF l0 l1 l ms).2 = 0
  · have ht : turnF l0 l1 l ms = 3 - leadr ms := by unfold turnF; rw [if_pos he]
    have Ht := Lib.hid ht
    have hq : ((endF l0 l1 l ms).2 != 0) = false := by rw [he]; rfl
    clear ht he
    go_wp2_with fail
    refine (of_any N A l.length c root l0 l1 M ms cm w1 hr1 HM.out (by omega)).mono ?_
    rintro e w2 ⟨gS, gL, rfl, _, _, hb2⟩
    have Hb2 := Lib.hid (Hbb.out.trans (hb2.mono Hbb.out.size))
    have hf7 := fun w => run_field7 N root l0 l1 (leadr ms) A M (some ⟨gS, 0, none⟩) (some ⟨gL, 0, none⟩) l.length c ms.length cm ms.length ms.length ms.length ms.length w
    clear hr1 Hbb hb2 y0 y1 y2 y3 y4 y5 hf
    go_wp2_with fail
    refine (other_any (leadr ms) w2 (leadr_12 ms)).mono ?_
    rintro e w3 ⟨rfl, rfl⟩
    go_wp2_with fail
    go_ret
    exact ⟨ri (by rw [Ht.out]), Hb2.out⟩
  · have ht : turnF l0 l1 l ms = 0 := by unfold turnF; rw [if_neg he]
    have Ht := Lib.hid ht
    have hq : ((endF l0 l1 l ms).2 != 0) = true := bne_iff_ne.2 he
    clear ht he
    go_wp2_with fail
    go_ret
    exact ⟨ri (by rw [Ht.out]), Hbb.out⟩
set_option maxRecDepth 100000 in
set_option maxHeartbeats 4000000 in
theorem Legal_any (N : Int) (A : Option Addr) (l : List (Int × Int)) (c : Nat) (root l0 l1 : Int) (M : Option Addr) (ms : List Mv) (cm : Nat) (w : World) (hp : RP w A l) (hr : RM w M ms) (hm : OkM ms) (hl : ms.length ≤ 300) (hll : l.length ≤ 1600) (ht : turnF l0 l1 l ms ≠ 0) :
    Calls Try.prog 46 #[.agg #[.int .i64 N, .slice A l.length c, .int .i64 root, .int .i64 l0, .int .i64 l1, .slice M ms.length cm]] w (RetMn (legL l ms) w) := by
  have hpos := hm.pos
  have HM := Lib.hid hm
  clear hm
  go_enter Try.func46, Try.ntmps46
  go_upto_region 1 with fail
  obtain ⟨W0, hW, k0, hb0, hs0⟩ := boxedA w 34 #[.int .i64 N, .slice A l.length c, .int .i64 root, .int .i64 l0, .int .i64 l1, .slice M ms.length cm]
  rw [hW]
  obtain ⟨z0, z1, z2, z3, z4, z5⟩ := dgC k0
  have hp0 := hp.below hb0; have hr0 := hr.below hb0
  have Hb0 := Lib.hid hb0
  have hne : (turnF l0 l1 l ms == 0) = false := beq_eq_false_iff_ne.2 ht
  clear hW k0 hb0 hs0 hp hr ht
  go_wp2_with fail
  refine (turn_any N A l c root l0 l1 M ms cm W0 hp0 hr0 HM.out hl hll).mono ?_
  rintro e w1 ⟨rfl, hb1⟩
  have hp1 := hp0.below hb1; have hr1 := hr0.below hb1
  have y0 := (hb1.cell (lt_of_cell z0)).trans z0
  have y1 := (hb1.cell (lt_of_cell z1)).trans z1
  have y2 := (hb1.cell (lt_of_cell z2)).trans z2
  have y3 := (hb1.cell (lt_of_cell z3)).trans z3
  have y4 := (hb1.cell (lt_of_cell z4)).trans z4
  have y5 := (hb1.cell (lt_of_cell z5)).trans z5
  have Hbb := Lib.hid (Hb0.out.trans (hb1.mono Hb0.out.size))
  clear hp0 hr0 Hb0 hb1 z0 z1 z2 z3 z4 z5
  go_wp2_with fail
  refine (of_any N A l.length c root l0 l1 M ms cm w1 hr1 HM.out (by omega)).mono ?_
  rintro e w2 ⟨gS, gL, rfl, _, hrl, hb2⟩
  have hp2 := hp1.below hb2; have hr2 := hr1.below hb2
  have Hb2 := Lib.hid (Hbb.out.trans (hb2.mono Hbb.out.size))
  clear hp1 hr1 Hbb hb2 y0 y1 y2 y3 y4 y5
  go_wp2_with fail
  refine (tLegal_any N A l c root l0 l1 M ms cm (some ⟨gS, 0, none⟩) ms.length ms.length gL w2 hp2 hr2 HM.out hl hll hrl).mono ?_
  rintro e w3 ⟨A4, c4, rfl, ho, hb3⟩
  have Ho := Lib.hid ho; have Hb3 := Lib.hid (Hb2.out.trans (hb3.mono Hb2.out.size))
  have hs := Hb2.out.size
  clear ho hb3 hp2 hr2 hrl
  go_wp2_with fail
  go_ret
  exact ⟨A4, c4, rfl, Ho.out.mono hs, Hb3.out⟩
end Go.Proofs.Ythkknlnfdckdfaa
