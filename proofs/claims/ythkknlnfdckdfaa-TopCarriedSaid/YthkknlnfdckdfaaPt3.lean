/- Package protocol: moved, legal, end; End, Turn, Legal. -/
import Derived.Test.YthkknlnfdckdfaaPt2
namespace Go.Proofs.Ythkknlnfdckdfaa
open Go.ChangeShapes Go.WideShapes Go.ChangeAt Go.RowKit

set_option maxRecDepth 100000 in
set_option maxHeartbeats 4000000 in
theorem moved_any (N : Int) (A : Option Addr) (k c : Nat) (root l0 l1 : Int) (M : Option Addr) (ms : List Mv) (cm : Nat) (S : Option Addr) (sk sc : Nat) (ld : Int) (L : Option Addr) (lk lc : Nat) (i : Nat) (x : Int) (w : World) (hr : RM w M ms) (hm : OkM ms) (hi : i < ms.length) :
    Calls Try.prog 73 #[.agg #[.int .i64 N, .slice A k c, .int .i64 root, .int .i64 l0, .int .i64 l1, .slice M ms.length cm, .slice S sk sc, .int .i64 ld, .slice L lk lc], .int .i64 (i : Int), .int .i64 x] w (RetB (.bool (mvdF ms x i)) w) := by
  have HM := Lib.hid hm
  clear hm
  go_enter Try.func73, Try.ntmps73
  go_upto_region 1 with fail
  obtain ⟨W0, hW, k0, hb0, hs0⟩ := boxedA w 102 #[.int .i64 N, .slice A k c, .int .i64 root, .int .i64 l0, .int .i64 l1, .slice M ms.length cm, .slice S sk sc, .int .i64 ld, .slice L lk lc]
  rw [hW]
  have c5 : W0.cell? ⟨w.heap.size, 5, none⟩ = some (.slice M ms.length cm) := k0.cell 5
  have hr0 := hr.below hb0
  clear hW k0 hr hs0
  go_loopw [1] (fun t wr => ∃ j : Nat, j < ms.length ∧ t = .int .i64 j ∧ mvdF ms x j = mvdF ms x i ∧ Below W0.heap.size W0 wr) (fun t _ => (intOf t).toNat)
  case atStart => exact ⟨i, hi, rfl, rfl, Below.refl _ _⟩
  case round =>
    obtain ⟨j, hj, rfl, he, hbl⟩ := hrel
    have He := Lib.hid he; clear he
    have c5w := (hbl.cell (lt_of_cell c5)).trans c5
    obtain ⟨b, o, rfl, e0, e1, e2, e3⟩ := (hr0.below hbl) j hj
    have hj0 : (0 : Int) ≤ (j : Int) := by omega
    have hj1 : (j : Int) < (ms.length : Int) := by omega
    have hsz := hbl.size
    cases ho : ownB ms x j
    case true =>
      have hv : mvdF ms x j = true := by
        rcases Nat.eq_zero_or_pos j with h0 | h0
        · subst h0; rw [mvd_zero]; exact ho
        · rw [mvd_eq HM.out x h0 hj, ho]; rfl
      have Hv := Lib.hid hv; clear hv
      unfold ownB at ho
      rw [Bool.and_eq_true] at ho
      obtain ⟨ho1, ho2⟩ := ho
      go_wp2_with fail
      go_ret
      exact ⟨rb (by rw [← He.out, Hv.out]), endB hb0 (hbl.alloc hsz _)⟩
    case false =>
    rcases Nat.eq_zero_or_pos j with h0 | h0
    · subst h0
      have hv : mvdF ms x 0 = false := by rw [mvd_zero]; exact ho
      simp only [Nat.zero_mul, Nat.add_zero] at e0 e1 e2 e3
      have Hv := Lib.hid hv; clear hv
      unfold ownB at ho
      rw [Bool.and_eq_false_iff] at ho
      cases h1 : ((mv ms 0).1 == 1)
      · clear ho
        go_wp2_with fail
        go_ret
        exact ⟨rb (by rw [← He.out, Hv.out]), endB hb0 (hbl.alloc hsz _)⟩
      · have h2 : ((mv ms 0).2.2.1 == x) = false := by
          rcases ho with ho | ho
          · rw [h1] at ho; cases ho
          · exact ho
        clear ho
        go_wp2_with fail
        go_ret
        exact ⟨rb (by rw [← He.out, Hv.out]), endB hb0 (hbl.alloc hsz _)⟩
    · obtain ⟨ht, htk⟩ := HM.out.tg h0 hj
      have hv : mvdF ms x (tg ms j) = mvdF ms x j := by rw [mvd_eq HM.out x h0 hj, ho]; rfl
      have Hv := Lib.hid hv; clear hv
      have hjn : ((j : Int) == 0) = false := beq_eq_false_iff_ne.2 (by omega)
      rw [ht] at e3
      unfold ownB at ho
      rw [Bool.and_eq_false_iff] at ho
      clear ht
      cases h1 : ((mv ms j).1 == 1)
      · clear ho
        go_wp2_with fail
        go_roundw
        case rel => exact ⟨tg ms j, by omega, rfl, by rw [Hv.out, He.out], hbl.alloc hsz _⟩
        case measure => simp [intOf]; omega
      · have h2 : ((mv ms j).2.2.1 == x) = false := by
          rcases ho with ho | ho
          · rw [h1] at ho; cases ho
          · exact ho
        clear ho
        go_wp2_with fail
        go_roundw
        case rel => exact ⟨tg ms j, by omega, rfl, by rw [Hv.out, He.out], hbl.alloc hsz _⟩
        case measure => simp [intOf]; omega
def legQ (l : List (Int × Int)) (ms : List Mv) (j q : Nat) : List Mv := ((l.take q).filter (lgB ms j)).map fun p => (3 - leadr ms, 2, p.1, (j : Int))
theorem legQ_zero (l : List (Int × Int)) (ms : List Mv) (j : Nat) : legQ l ms j 0 = [] := by unfold legQ; simp
theorem legQ_hit {l : List (Int × Int)} {ms : List Mv} {j q : Nat} (h : q < l.length) (hb : lgB ms j l[q] = true) : legQ l ms j (q + 1) = legQ l ms j q ++ [(3 - leadr ms, 2, l[q].1, (j : Int))] := by
  unfold legQ
  rw [List.take_succ_eq_append_getElem h, List.filter_append, List.map_append]
  simp [hb]
theorem legQ_miss {l : List (Int × Int)} {ms : List Mv} {j q : Nat} (h : q < l.length) (hb : lgB ms j l[q] = false) : legQ l ms j (q + 1) = legQ l ms j q := by
  unfold legQ
  rw [List.take_succ_eq_append_getElem h, List.filter_append, List.map_append]
  simp [hb]
theorem legQ_all (l : List (Int × Int)) {ms : List Mv} {j : Nat} (h : (ldF ms j && (mv ms j).1 == leadr ms) = true) : legQ l ms j l.length = legAt l ms j := by
  unfold legQ legAt
  rw [if_pos h, List.take_length]
theorem legQ_len (l : List (Int × Int)) (ms : List Mv) (j q : Nat) : (legQ l ms j q).length ≤ l.length := by
  unfold legQ
  rw [List.length_map]
  have := List.length_filter_le (lgB ms j) (l.take q)
  rw [List.length_take] at this; omega
set_option maxRecDepth 100000 in
set_option maxHeartbeats 8000000 in
theorem tLegal_any (N : Int) (A : Option Addr) (l : List (Int × Int)) (c : Nat) (root l0 l1 : Int) (M : Option Addr) (ms : List Mv) (cm : Nat) (S : Option Addr) (sk sc gL : Nat) (w : World) (hp : RP w A l) (hr : RM w M ms) (hm : OkM ms) (hl : ms.length ≤ 300) (hll : l.length ≤ 1600) (hrl : RowB w gL ms.length (ldF ms)) :
    Calls Try.prog 61 #[.agg #[.int .i64 N, .slice A l.length c, .int .i64 root, .int .i64 l0, .int .i64 l1, .slice M ms.length cm, .slice S sk sc, .int .i64 (leadr ms), .slice (some ⟨gL, 0, none⟩) ms.length ms.length]] w (RetMn (legL l ms) w) := by
  have HM := Lib.hid hm
  have hlen : ∀ j, j ≤ ms.length → (legR l ms j).length ≤ 300 * 1600 := fun j hj => Nat.le_trans (legR_len l ms j) (Nat.mul_le_mul (by omega) hll)
  have Hlen := Lib.hid hlen
  clear hm hlen
  go_enter Try.func61, Try.ntmps61
  go_upto_region 1 with fail
  obtain ⟨W0, hW, k0, hb0, hs0⟩ := boxedA w 102 #[.int .i64 N, .slice A l.length c, .int .i64 root, .int .i64 l0, .int .i64 l1, .slice M ms.length cm, .slice S sk sc, .int .i64 (leadr ms), .slice (some ⟨gL, 0, none⟩) ms.length ms.length]
  rw [hW]
  have hr0 := hr.below hb0
  have hp0 := hp.below hb0
  have hrl0 := hrl.below hb0
  obtain ⟨z0, z1, z2, z3, z4, z5, z6, z7, z8⟩ := tbC k0
  clear hW hr hp hrl hs0 k0
  have Hb0 := Lib.hid hb0
  have HrA := Lib.hid hr0; have HpA := Lib.hid hp0; have HlA := Lib.hid hrl0
  have hg0 : w.heap.size < W0.heap.size := lt_of_cell z0
  clear hb0 hr0 hp0 hrl0
  generalize hG : w.heap.size = G at *
  have HG := Lib.hid hG
  clear hG
  go_wp2_with fail
  refine (other_any (leadr ms) W0 (leadr_12 ms)).mono ?_
  rintro e w1 ⟨rfl, rfl⟩
  go_wp2_with fail
  go_loopw [4, 17] (fun v t wr => ∃ j : Nat, j ≤ ms.length ∧ t = .int .i64 j ∧ OwnM wr W0.heap.size v (legR l ms j) ∧ Below W0.heap.size W0 wr) (fun _ t _ => ms.length - (intOf t).toNat)
  case atStart => exact ⟨0, Nat.zero_le _, rfl, OwnM.nil _ _, Below.refl _ _⟩
  case round =>
    obtain ⟨j, hj, rfl, hown, hbl⟩ := hrel
    by_cases hlt : j < ms.length
    case neg =>
      obtain rfl : j = ms.length := by omega
      obtain ⟨A4, c4, rfl, _, _⟩ := hown.form
      have Hown := Lib.hid hown
      have Hbl := Lib.hid hbl
      clear hown hbl
      go_wp2_with fail
      go_ret
      refine ⟨A4, c4, rfl, ?_, ?_⟩
      · have h1 := Hown.out; have h2 := Hb0.out; have h3 := h2.size; rw [HG.out] at h3 ⊢; exact h1.mono h3
      · have h2 := Hb0.out; have h3 := h2.size; rw [HG.out] at h3 ⊢; exact h2.trans (Hbl.out.mono h3)
    case pos =>
    have hjz : (0 : Int) ≤ (j : Int) := by omega
    have hjl : (j : Int) < (ms.length : Int) := by omega
    have hlenj := Hlen.out j hj
    obtain ⟨b, o, rfl, e0, e1, e2, e3⟩ := (HrA.out.below hbl) j hlt
    have cl := (HlA.out.below hbl).cell hlt
    have y0 := (hbl.cell (lt_of_cell z0)).trans z0
    have y1 := (hbl.cell (lt_of_cell z1)).trans z1
    have y5 := (hbl.cell (lt_of_cell z5)).trans z5
    have y7 := (hbl.cell (lt_of_cell z7)).trans z7
    have y8 := (hbl.cell (lt_of_cell z8)).trans z8
    go_upto_region 6 with fail
    obtain ⟨wa, hwa, ka, hba, hsa⟩ := boxedA wr 46 #[.int .i64 (mv ms j).1, .int .i64 (mv ms j).2.1, .int .i64 (mv ms j).2.2.1, .int .i64 (mv ms j).2.2.2]
    rw [hwa]
    clear hwa
    have owna := hown.below hba
    have hbla : Below W0.heap.size W0 wa := hbl.trans (hba.mono hbl.size)
    have a0 : wa.cell? ⟨wr.heap.size, 0, none⟩ = some (.int .i64 (mv ms j).1) := ka.cell 0
    have a2 : wa.cell? ⟨wr.heap.size, 2, none⟩ = some (.int .i64 (mv ms j).2.2.1) := ka.cell 2
    have x0 := (hba.cell (lt_of_cell y0)).trans y0
    have x1 := (hba.cell (lt_of_cell y1)).trans y1
    have x5 := (hba.cell (lt_of_cell y5)).trans y5
    have x7 := (hba.cell (lt_of_cell y7)).trans y7
    have x8 := (hba.cell (lt_of_cell y8)).trans y8
    have cla := (hba.cell (lt_of_cell cl)).trans cl
    have hra := lt_of_cell a0
    have hrw : W0.heap.size ≤ wr.heap.size := hbl.size
    have hvga := fun k hk => (World.ownsRow.lt hown k hk).2
    have hgaw : W0.heap.size ≤ wr.heap.size := hbl.size
    have Hka := Lib.hid ka
    clear hown hbl ka hba hsa y0 y1 y5 y7 y8 cl e0 e1 e2 e3
    generalize wr.heap.size = ga at *
    obtain ⟨wo, hwo⟩ : ∃ wo, wo = wr := ⟨_, rfl⟩
    subst hwo
    cases hld : ldF ms j
    case false =>
      have he : legR l ms (j + 1) = legR l ms j := by
        rw [legR]; unfold legAt; rw [hld]; simp
      rw [hld] at cla
      have He := Lib.hid he; have Own := Lib.hid owna
      clear he owna
      go_wp2_with fail
      go_roundw
      case rel => exact ⟨j + 1, by omega, by go_num, by rw [He.out]; exact Own.out, hbla⟩
      case measure => simp [intOf]; omega
    case true =>
    rw [hld] at cla
    cases hby : ((mv ms j).1 == leadr ms)
    case false =>
      have he : legR l ms (j + 1) = legR l ms j := by
        rw [legR]; unfold legAt; rw [hld, hby]; simp
      have hne : ((mv ms j).1 != leadr ms) = true := by unfold bne; rw [hby]; rfl
      have He := Lib.hid he; have Own := Lib.hid owna
      clear he owna hby
      go_wp2_with fail
      go_roundw
      case rel => exact ⟨j + 1, by omega, by go_num, by rw [He.out]; exact Own.out, hbla⟩
      case measure => simp [intOf]; omega
    case true =>
    have he : legR l ms (j + 1) = legR l ms j ++ legQ l ms j l.length := by
      rw [legR, legQ_all l (by rw [hld, hby]; rfl)]
    have hne : ((mv ms j).1 != leadr ms) = false := by unfold bne; rw [hby]; rfl
    have He := Lib.hid he; have Own := Lib.hid owna
    clear he owna hby hld
    go_wp2_with fail
    go_loopw [4, 40] (fun v t wx => ∃ q : Nat, q ≤ l.length ∧ t = .int .i64 q ∧ OwnM wx W0.heap.size v (legR l ms j ++ legQ l ms j q) ∧ Blk wx ga 46 #[.int .i64 (mv ms j).1, .int .i64 (mv ms j).2.1, .int .i64 (mv ms j).2.2.1, .int .i64 (mv ms j).2.2.2] ∧ v.ownBlock ≠ some ga ∧ Below W0.heap.size W0 wx) (fun _ t _ => l.length - (intOf t).toNat)
    case atStart => exact ⟨0, Nat.zero_le _, rfl, by rw [legQ_zero, List.append_nil]; exact Own.out, Hka.out, (fun e => by have := hvga _ e; omega), hbla⟩
    case round =>
      clear Own Hka
      obtain ⟨q, hq, rfl, hown, hkg, hvg, hbw⟩ := hrel
      by_cases hql : q < l.length
      case neg =>
        obtain rfl : q = l.length := by omega
        have Hown := Lib.hid hown; have Hbw := Lib.hid hbw
        clear hown hbw
        go_wp2_with fail
        go_roundw
        case rel => exact ⟨j + 1, by omega, by go_num, by rw [He.out]; exact Hown.out, Hbw.out⟩
        case measure => simp [intOf]; omega
      case pos =>
      have hqz : (0 : Int) ≤ (q : Int) := by omega
      have hqlz : (q : Int) < (l.length : Int) := by omega
      obtain ⟨b2, o2, rfl, p0, p1⟩ := (HpA.out.below hbw).at_ hql
      have Hlq := Lib.hid (show (legR l ms j ++ legQ l ms j q).length ≤ 500000 by
        rw [List.length_append]
        have := legQ_len l ms j q; omega)
      have Hvg := Lib.hid hvg
      clear hvg
      go_upto_region 11 with fail
      obtain ⟨wb, hwb, kp, kx, hbb, hsb⟩ := boxed2A wr 73 46 #[.int .i64 l[q].1, .int .i64 l[q].2] #[.int .i64 (3 - leadr ms), .int .i64 2, .int .i64 l[q].1, .int .i64 (j : Int)]
      rw [hwb]
      clear hwb
      have ownb := hown.below hbb
      have hbwb : Below W0.heap.size W0 wb := hbw.trans (hbb.mono hbw.size)
      have hkgb := hkg.below hbb hkg.lt
      have hcp : ∀ i, wb.cell? ⟨G, i, none⟩ = W0.cell? ⟨G, i, none⟩ := fun i => hbwb.cell (p := ⟨G, i, none⟩) hg0
      have s0 := (hcp 0).trans z0
      have s1 := (hcp 1).trans z1
      have s2 := (hcp 2).trans z2
      have s3 := (hcp 3).trans z3
      have s4 := (hcp 4).trans z4
      have s5 := (hcp 5).trans z5
      have s6 := (hcp 6).trans z6
      have s7 := (hcp 7).trans z7
      have s8 := (hcp 8).trans z8
      have t2 : wb.cell? ⟨ga, 2, none⟩ = some (.int .i64 (mv ms j).2.2.1) := hkgb.cell 2
      have p0 : wb.cell? ⟨wr.heap.size, 0, none⟩ = some (.int .i64 l[q].1) := kp.cell 0
      have p1 : wb.cell? ⟨wr.heap.size, 1, none⟩ = some (.int .i64 l[q].2) := kp.cell 1
      have q0 : wb.cell? ⟨wr.heap.size + 1, 0, none⟩ = some (.int .i64 (3 - leadr ms)) := kx.cell 0
      have q1 : wb.cell? ⟨wr.heap.size + 1, 1, none⟩ = some (.int .i64 2) := kx.cell 1
      have q2 : wb.cell? ⟨wr.heap.size + 1, 2, none⟩ = some (.int .i64 l[q].1) := kx.cell 2
      have q3 : wb.cell? ⟨wr.heap.size + 1, 3, none⟩ = some (.int .i64 (j : Int)) := kx.cell 3
      have Hrb := Lib.hid (HrA.out.below hbwb)
      have Own := Lib.hid ownb; have Hbw := Lib.hid hbwb; have Kga := Lib.hid hkgb
      clear hown hbw hbb kp kx hcp hsb ownb hbwb hkgb hkg
      generalize wr.heap.size = gp at *
      cases hto : (l[q].2 == (mv ms j).2.2.1)
      case false =>
        have hmiss : legQ l ms j (q + 1) = legQ l ms j q := legQ_miss hql (by unfold lgB; rw [hto]; rfl)
        have hne : (l[q].2 != (mv ms j).2.2.1) = true := by unfold bne; rw [hto]; rfl
        have Hm := Lib.hid hmiss
        clear hmiss hto
        go_wp2_with fail
        go_roundw
        case rel => exact ⟨q + 1, by omega, by go_num, by rw [Hm.out]; exact Own.out, Kga.out, Hvg.out, Hbw.out⟩
        case measure => simp [intOf]; omega
      case true =>
      have hne : (l[q].2 != (mv ms j).2.2.1) = false := by unfold bne; rw [hto]; rfl
      have Hto := Lib.hid hto
      clear hto
      go_wp2_with fail
      refine (containsM_any (some ⟨b, o, none⟩) ms cm ((3 - leadr ms, 2, l[q].1, (j : Int)) : Mv) wb Hrb.out (by omega)).mono ?_
      rintro e w2 ⟨rfl, hb2⟩
      have s0 := (hb2.cell (lt_of_cell s0)).trans s0
      have s1 := (hb2.cell (lt_of_cell s1)).trans s1
      have s2 := (hb2.cell (lt_of_cell s2)).trans s2
      have s3 := (hb2.cell (lt_of_cell s3)).trans s3
      have s4 := (hb2.cell (lt_of_cell s4)).trans s4
      have s5 := (hb2.cell (lt_of_cell s5)).trans s5
      have s6 := (hb2.cell (lt_of_cell s6)).trans s6
      have s7 := (hb2.cell (lt_of_cell s7)).trans s7
      have s8 := (hb2.cell (lt_of_cell s8)).trans s8
      have p0 := (hb2.cell (lt_of_cell p0)).trans p0
      have q0 := (hb2.cell (lt_of_cell q0)).trans q0
      have q1 := (hb2.cell (lt_of_cell q1)).trans q1
      have q2 := (hb2.cell (lt_of_cell q2)).trans q2
      have q3 := (hb2.cell (lt_of_cell q3)).trans q3
      have Own2 := Lib.hid (Own.out.below hb2); have Hbw2 := Lib.hid (Hbw.out.trans (hb2.mono Hbw.out.size)); have Hr2 := Lib.hid (Hrb.out.below hb2); have Kga2 := Lib.hid (Kga.out.below hb2 Kga.out.lt)
      clear hb2 Own Hbw Hrb Kga
      cases hco : ms.contains ((3 - leadr ms, 2, l[q].1, (j : Int)) : Mv)
      case true =>
        have hmiss : legQ l ms j (q + 1) = legQ l ms j q := legQ_miss hql (by unfold lgB; rw [Hto.out, hco]; rfl)
        have Hm := Lib.hid hmiss
        clear hmiss hco
        go_wp2_with fail
        go_roundw
        case rel => exact ⟨q + 1, by omega, by go_num, by rw [Hm.out]; exact Own2.out, Kga2.out, Hvg.out, Hbw2.out⟩
        case measure => simp [intOf]; omega
      case false =>
      have Hco := Lib.hid hco
      clear hco
      cases hbe : (3 - leadr ms == 1)
      case false =>
        have Hhit := Lib.hid (legQ_hit hql (show lgB ms j l[q] = true by unfold lgB; rw [Hto.out, Hco.out, hbe]; rfl))
        go_wp2_with (at_builtin; refine wpList_appM2 (by rfl) _ _ (by rfl) w2 W0.heap.size _ _ ((3 - leadr ms, 2, l[q].1, (j : Int)) : Mv) Own2.out (by rfl) (by rfl) (by have := Hlq.out; omega) Hbw2.out.size ?_; intro v' w4 hown' hb4 hg4 hv4)
        have Own4 := Lib.hid hown'; have Hb4 := Lib.hid (Hbw2.out.trans hb4); have Kga4 := Lib.hid (Kga2.out.grown hg4 (fun e => Hvg.out e.symm))
        have Hv4 := Lib.hid (show v'.ownBlock ≠ some ga from fun e => by
          rcases hv4 with h | h
          · exact Hvg.out (h ▸ e)
          · have := h ga e; have := Kga2.out.lt; omega)
        clear hown' hb4 hg4 hv4
        go_roundw
        case rel => exact ⟨q + 1, by omega, by go_num, by rw [Hhit.out, ← List.append_assoc]; exact Own4.out, Kga4.out, Hv4.out, Hb4.out⟩
        case measure => simp [intOf]; omega
      case true =>
      have Hbe := Lib.hid hbe
      go_wp2_with fail
      clear hbe
      refine (moved_any N (some ⟨b2, o2, none⟩) l.length c root l0 l1 (some ⟨b, o, none⟩) ms cm S sk sc (leadr ms) (some ⟨gL, 0, none⟩) ms.length ms.length j l[q].1 w2 Hr2.out HM.out hlt).mono ?_
      rintro e w3 ⟨rfl, hb3⟩
      have p0 := (hb3.cell (lt_of_cell p0)).trans p0
      have q0 := (hb3.cell (lt_of_cell q0)).trans q0
      have q1 := (hb3.cell (lt_of_cell q1)).trans q1
      have q2 := (hb3.cell (lt_of_cell q2)).trans q2
      have q3 := (hb3.cell (lt_of_cell q3)).trans q3
      have Own3 := Lib.hid (Own2.out.below hb3); have Hbw3 := Lib.hid (Hbw2.out.trans (hb3.mono Hbw2.out.size)); have Kga3 := Lib.hid (Kga2.out.below hb3 Kga2.out.lt)
      clear hb3 Own2 Hbw2 Hr2 Kga2
      cases hmd : mvdF ms l[q].1 j
      case true =>
        have hmiss : legQ l ms j (q + 1) = legQ l ms j q := legQ_miss hql (by unfold lgB; rw [Hto.out, Hco.out, Hbe.out, hmd]; rfl)
        have Hm := Lib.hid hmiss
        clear hmiss hmd
        go_wp2_with fail
        go_roundw
        case rel => exact ⟨q + 1, by omega, by go_num, by rw [Hm.out]; exact Own3.out, Kga3.out, Hvg.out, Hbw3.out⟩
        case measure => simp [intOf]; omega
      case false =>
        have Hhit := Lib.hid (legQ_hit hql (show lgB ms j l[q] = true by unfold lgB; rw [Hto.out, Hco.out, Hbe.out, hmd]; rfl))
        clear hmd
        go_wp2_with (at_builtin; refine wpList_appM2 (by rfl) _ _ (by rfl) w3 W0.heap.size _ _ ((3 - leadr ms, 2, l[q].1, (j : Int)) : Mv) Own3.out (by rfl) (by rfl) (by have := Hlq.out; omega) Hbw3.out.size ?_; intro v' w4 hown' hb4 hg4 hv4)
        have Own4 := Lib.hid hown'; have Hb4 := Lib.hid (Hbw3.out.trans hb4); have Kga4 := Lib.hid (Kga3.out.grown hg4 (fun e => Hvg.out e.symm))
        have Hv4 := Lib.hid (show v'.ownBlock ≠ some ga from fun e => by
          rcases hv4 with h | h
          · exact Hvg.out (h ▸ e)
          · have := h ga e; have := Kga3.out.lt; omega)
        clear hown' hb4 hg4 hv4
        go_roundw
        case rel => exact ⟨q + 1, by omega, by go_num, by rw [Hhit.out, ← List.append_assoc]; exact Own4.out, Kga4.out, Hv4.out, Hb4.out⟩
        case measure => simp [intOf]; omega
end Go.Proofs.Ythkknlnfdckdfaa
