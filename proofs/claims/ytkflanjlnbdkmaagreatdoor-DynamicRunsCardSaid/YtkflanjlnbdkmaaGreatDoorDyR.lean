/- dynamic.Run at valid states. -/
import Derived.Test.YtkflanjlnbdkmaaGreatDoorOrdP
namespace Go.Proofs.YtkflanjlnbdkmaaGreatDoor
open Go.ChangeShapes Go.WideShapes Go.ChangeAt Go.RowKit

theorem DyV.mono {w : World} {m m' : Nat} {l : List (Int × Int)} {G : List Int} {A : Option Addr} {c : Nat} {B : Option Addr} {d : Nat} (h : DyV w m l G A c B d) (hm : m' ≤ m) : DyV w m' l G A c B d :=
  ⟨h.rp, h.an, h.ri, h.bn, fun b o e => Nat.le_trans hm (h.ua b o e), fun b o e => Nat.le_trans hm (h.ub b o e)⟩
/-- a state apart from a box that is stored into -/
theorem DyV.set3 {w : World} {m D : Nat} {l : List (Int × Int)} {G : List Int} {A : Option Addr} {c : Nat} {B : Option Addr} {d : Nat} (h : DyV w m l G A c B d) (hD : D < m) (x y z : Value) : DyV (((w.setCell ⟨D, 0, none⟩ x).setCell ⟨D, 1, none⟩ y).setCell ⟨D, 2, none⟩ z) m l G A c B d := by
  have h1 : ∀ b o, A = some ⟨b, o, none⟩ → 0 < l.length → b ≠ D := fun b o e _ => by have := h.ua b o e; omega
  have h2 : ∀ b o, B = some ⟨b, o, none⟩ → G ≠ [] → b ≠ D := fun b o e _ => by have := h.ub b o e; omega
  exact ⟨((h.rp.set_far h1 0 _).set_far h1 1 _).set_far h1 2 _, h.an, ((h.ri.grown (grownBy_setCell _ D 0 _) h2).grown (grownBy_setCell _ D 1 _) h2).grown (grownBy_setCell _ D 2 _) h2, h.bn, h.ua, h.ub⟩
/-- the call returns a state, a number and an error -/
def RetRn (N : Int) (l : List (Int × Int)) (lab : List Int) (m er : Int) (w : World) : Ending → World → Prop := fun e w' => ∃ A c B d, e = .returned (.tuple #[.agg #[.int .i64 N, .slice A l.length c, .slice B lab.length d], .int .i64 m, .int .i64 er]) ∧ DyV w' w.heap.size l lab A c B d ∧ Below w.heap.size w w'
/-- the state that the box holds is the one after the first changes -/
structure RunJ (n0 : Nat) (l0 : List (Int × Int)) (cs : List (Int × Int × Int)) (D base : Nat) (j : Nat) (s : Nat × List (Int × Int) × Nat) (w : World) : Prop where
  run : chgR n0 l0 (cs.take j) = s
  vld : Vld s.1 s.2.1
  box : ∃ A c B d, Blk w D 27 #[.int .i64 (s.1 : Int), .slice A s.2.1.length c, .slice B (lst s.1 (grL s.1 s.2.1)).length d] ∧ DyV w base s.2.1 (lst s.1 (grL s.1 s.2.1)) A c B d
theorem dap_any {n : Nat} {l : List (Int × Int)} (hv : Vld n l) (k f t : Int) (A : Option Addr) (c : Nat) (B : Option Addr) (d : Nat) (W : World) (m : Nat) (h : DyV W m l (lst n (grL n l)) A c B d) (hT : Tab W) :
    Calls Tryz.prog 28 #[.agg #[.int .i64 (n : Int), .slice A l.length c, .slice B (lst n (grL n l)).length d], .agg #[.int .i64 k, .int .i64 f, .int .i64 t]] W (RetAv (apN n l k f t : Nat) (apL n l k f t) (apG n l k f t) (apF n l k f t) (chkE n l k f t) W) := by
  refine (dapply_any A B n l c d k f t W h.rp h.an h.ri h.bn hv hT).mono ?_
  rintro e w' ⟨A', c', B', d', F', f', rfl, ⟨h1, h2, h3⟩, ⟨h4, h5, h6⟩, ⟨h7, _⟩, hb⟩
  exact ⟨A', c', B', d', F', f', rfl, ⟨h1, h2, h4, h5, h3, h6⟩, h7, hb⟩
set_option maxRecDepth 100000 in
set_option maxHeartbeats 4000000 in
theorem run_good {n : Nat} {l : List (Int × Int)} (hv : Vld n l) (A : Option Addr) (c : Nat) (B : Option Addr) (d : Nat) (C : Option Addr) (cs : List (Int × Int × Int)) (cc : Nat) (w : World) (m : Nat) (h : DyV w m l (lst n (grL n l)) A c B d) (hT : Tab w) (hC : RC w C cs) (hcs : cs.length ≤ 200) :
    Calls Tryz.prog 17 #[.agg #[.int .i64 (n : Int), .slice A l.length c, .slice B (lst n (grL n l)).length d], .slice C cs.length cc] w
      (RetRn ((chgR n l cs).1 : Nat) (chgR n l cs).2.1 (lst (chgR n l cs).1 (grL (chgR n l cs).1 (chgR n l cs).2.1)) ((chgR n l cs).2.2 : Nat) 0 w) := by
  have hl := hv.1.2.1
  have hlabl : (lst n (grL n l)).length ≤ 100000 := by rw [lst_length]; have := hv.1.1; omega
  have hdv : dvB n l (lst n (grL n l)) = true := by
    unfold dvB
    rw [hv.valE, Int.toNat_natCast]
    simp [eqB]
  have hval := fun W (h1 : RP W A l) (h2 : RI W B (lst n (grL n l))) (h3 : Tab W) => dvalid_any A B n l (lst n (grL n l)) c d W h1 hl h2 hlabl h3
  rw [hdv] at hval
  have hcop := fun W (h1 : RP W A l) (h2 : RI W B (lst n (grL n l))) => dcopied_any A B n l (lst n (grL n l)) c d W h1 h.an hl h2 h.bn hlabl
  have Hini := Lib.hid (show chgR n l (cs.take 0) = (n, l, 0) by rw [List.take_zero]; rfl)
  obtain ⟨s, hs⟩ : ∃ s, chgR n l cs = s := ⟨_, rfl⟩
  rw [hs]
  obtain ⟨G, hG⟩ : ∃ G, lst n (grL n l) = G := ⟨_, rfl⟩
  rw [hG] at h hval hcop hlabl ⊢
  have HG := Lib.hid hG; have Hs := Lib.hid hs; have HV := Lib.hid hv
  have hgt : ¬ (200 : Int) < (cs.length : Int) := by omega
  have hr := h.rp; have hi := h.ri
  have HT0 := Lib.hid hT; have HC0 := Lib.hid hC
  clear hdv hG hs hv h
  go_enter Tryz.func17, Tryz.ntmps17
  go_upto_region 1 with fail
  obtain ⟨W0, hW, k0, k1, hb0, hlt0⟩ := boxed33 w 27 27 (.int .i64 (n : Int)) (.slice A l.length c) (.slice B G.length d) (.int .i64 0) (.slice none 0 0) (.slice none 0 0)
  rw [hW]
  obtain ⟨c0, c1, c2, _, _, _⟩ := k0.threeF
  have hr0 := hr.below hb0
  have hi0 := hi.below hb0
  have hT0 := hT.below hb0
  have Hval := Lib.hid (hval W0 hr0 hi0 hT0)
  clear hW hr hi hT hC hval
  go_wp2_with fail
  refine Hval.out.mono ?_
  rintro e w1 ⟨rfl, hb1⟩
  have k01 := k0.below hb1 k0.lt
  have k11 := k1.below hb1 k1.lt
  obtain ⟨c0, c1, c2, _, _, _⟩ := k01.threeF
  have hbb1 := endB hb0 hb1
  have Hcop := Lib.hid (hcop w1 (hr0.below hb1) (hi0.below hb1))
  clear Hval hcop hr0 hi0 hT0 k0 k1 hb1
  go_wp2_with fail
  refine Hcop.out.mono ?_
  rintro e w2 ⟨A2, c2', B2, d2', rfl, hop2, hoi2, hb2⟩
  have hV2 := DyV.of_own hop2 hoi2
  have hw1 : w.heap.size + 1 < w1.heap.size := k11.lt
  have k12 := k11.below hb2 k11.lt
  have hbb2 := endB hbb1 hb2
  have hsz2 := hb2.size
  clear Hcop hop2 hoi2 k11 k01 c0 c1 c2 hb2
  go_upto_region 6 with fail
  obtain ⟨W3, hW3, kD, hb3, _⟩ := boxed3 w2 27 (.int .i64 (n : Int)) (.slice A2 l.length c2') (.slice B2 G.length d2')
  rw [hW3]
  have hJ0 : RunJ n l cs w2.heap.size w1.heap.size 0 (n, l, 0) W3 := ⟨Hini.out, HV.out, A2, c2', B2, d2', by simp only; rw [HG.out]; exact kD, by simp only; rw [HG.out]; exact hV2.below hb3⟩
  have k13 := k12.below hb3 k12.lt
  have hbb3 := endB hbb2 hb3
  have hD3 : w2.heap.size < W3.heap.size := kD.lt
  have HJ0 := Lib.hid hJ0
  clear hW3 kD hV2 k12 hJ0 hbb2 hbb1 hb3 hb0
  obtain ⟨D, hD⟩ : ∃ D, w2.heap.size = D := ⟨_, rfl⟩
  obtain ⟨base, hbase⟩ : ∃ D, w1.heap.size = D := ⟨_, rfl⟩
  rw [hD] at HJ0 hD3 hsz2 ⊢
  rw [hbase] at HJ0 hw1 hsz2
  clear hD hbase Hini HG
  go_wp2_with fail
  go_loopw [8, 26] (fun km ki wr => ∃ (j : Nat) (s1 : Nat × List (Int × Int) × Nat), j ≤ cs.length ∧ s1.2.2 ≤ j ∧ km = .int .i64 (s1.2.2 : Nat) ∧ ki = .int .i64 j ∧ RunJ n l cs D base j s1 wr ∧ Below w.heap.size w wr ∧ Blk wr (w.heap.size + 1) 27 #[.int .i64 0, .slice none 0 0, .slice none 0 0]) (fun _ ki _ => cs.length - (intOf ki).toNat)
  case atStart => exact ⟨0, (n, l, 0), by omega, by simp, rfl, rfl, HJ0.out, hbb3, k13⟩
  case round =>
    obtain ⟨j, ⟨n1, l1, m1⟩, hj, hmj, rfl, rfl, ⟨hrun, hv1, A1, c1, B1, d1, kd, hV1⟩, hbbw, k1w⟩ := hrel
    simp only at hmj hv1 kd hV1
    have hDw := kd.lt
    by_cases hjl : j < cs.length
    case neg =>
      rw [List.take_of_length_le (by omega), Hs.out] at hrun
      subst hrun
      have hjl' : ¬ (j : Int) < (cs.length : Int) := by omega
      simp only
      generalize lst n1 (grL n1 l1) = G1 at *
      obtain ⟨d0, d1', d2, _, _, _⟩ := kd.threeF
      obtain ⟨r0, r1, r2, f0, f1, f2⟩ := k1w.threeF
      have hk := set3 k1w (.int .i64 (n1 : Int)) (.slice A1 l1.length c1) (.slice B1 G1.length d1)
      have hbb4 := below_set3 hbbw (g := w.heap.size + 1) (by omega) (.int .i64 (n1 : Int)) (.slice A1 l1.length c1) (.slice B1 G1.length d1)
      have hV4 := hV1.set3 (D := w.heap.size + 1) hw1 (.int .i64 (n1 : Int)) (.slice A1 l1.length c1) (.slice B1 G1.length d1)
      obtain ⟨W4, hW4⟩ : ∃ W, ((wr.setCell ⟨w.heap.size + 1, 0, none⟩ (.int .i64 (n1 : Int))).setCell ⟨w.heap.size + 1, 1, none⟩ (.slice A1 l1.length c1)).setCell ⟨w.heap.size + 1, 2, none⟩ (.slice B1 G1.length d1) = W := ⟨_, rfl⟩
      rw [hW4] at hk hbb4 hV4
      obtain ⟨q0, q1, q2, _, _, _⟩ := hk.threeF
      have HV4 := Lib.hid hV4; have Hbb := Lib.hid hbb4
      clear hV1 hV4 hbb4 hk k1w kd
      go_wp2_with fail
      refine bodyPost_ret (v := .tuple #[.agg #[.int .i64 (n1 : Int), .slice A1 l1.length c1, .slice B1 G1.length d1], .int .i64 m1, .int .i64 0]) (by simp [results, Tryz.results17, go_sem, q0, q1, q2]) rfl ?_
      exact ⟨A1, c1, B1, d1, rfl, HV4.out.mono (by omega), Hbb.out⟩
    case pos =>
    have hjl' : (j : Int) < (cs.length : Int) := by omega
    have hj0 : (0 : Int) ≤ (j : Int) := by omega
    obtain ⟨b, o, hCa, hc0, hc1, hc2⟩ := (HC0.out.below hbbw) j hjl
    obtain ⟨⟨k, f, t⟩, hq⟩ : ∃ q, cs.getD j (0, 0, 0) = q := ⟨_, rfl⟩
    rw [hq] at hc0 hc1 hc2
    simp only at hc0 hc1 hc2
    have hq' : cs[j] = (k, f, t) := by rw [← hq]; simp [List.getD, hjl]
    have hstep : chgR n l (cs.take (j + 1)) = chgS (n1, l1, m1) (k, f, t) := by
      rw [List.take_succ_eq_append_getElem hjl, chgR_snoc, hrun, hq']
    have Hstep := Lib.hid hstep; have HV1 := Lib.hid hv1
    have Hap := fun W (h1 : DyV W base l1 (lst n1 (grL n1 l1)) A1 c1 B1 d1) (h2 : Tab W) => dap_any HV1.out k f t A1 c1 B1 d1 W base h1 h2
    have Hap := Lib.hid Hap
    obtain ⟨G1, hG1⟩ : ∃ G1, lst n1 (grL n1 l1) = G1 := ⟨_, rfl⟩
    rw [hG1] at kd hV1 Hap
    have HG1 := Lib.hid hG1
    clear hG1
    have hT4 := HT0.out.below hbbw
    subst hCa
    clear hstep hv1 hq hq' hrun
    go_upto_region 9 with fail
    obtain ⟨W4, hW4, kc, hb4, _⟩ := boxed3 wr 29 (.int .i64 k) (.int .i64 f) (.int .i64 t)
    rw [hW4]
    have kd4 := kd.below hb4 kd.lt
    have hV4 := hV1.below hb4
    have hb04 := endB hbbw hb4
    have k14 := k1w.below hb4 k1w.lt
    obtain ⟨d0, d1', d2, _, _, _⟩ := kd4.threeF
    obtain ⟨e0, e1, e2, _, _, _⟩ := kc.threeF
    have Hc := Lib.hid (Hap.out W4 hV4 (hT4.below hb4))
    clear hW4 hV1 kd k1w hb4 Hap hT4
    go_wp2_with fail
    refine Hc.out.mono ?_
    rintro e w5 ⟨A5, c5, B5, d5, F5, f5, rfl, hV5, _, hb5⟩
    have kd5 := kd4.below hb5 kd4.lt
    have hV45 := hV4.below hb5
    have hb05 := endB hb04 hb5
    have k15 := k14.below hb5 k14.lt
    have hsz4 : base ≤ W4.heap.size := by have := kd4.lt; omega
    have hD4 : D < W4.heap.size := kd4.lt
    clear Hc hV4 kd4 hb5
    go_upto_region 10 with fail
    obtain ⟨W6, hW6, k6, hb6, _⟩ := boxed3 w5 27 (.int .i64 (apN n1 l1 k f t : Nat)) (.slice A5 (apL n1 l1 k f t).length c5) (.slice B5 (apG n1 l1 k f t).length d5)
    rw [hW6]
    have kd6 := kd5.below hb6 kd5.lt
    have hV46 := hV45.below hb6
    have hV6 := hV5.below hb6
    have hb06 := endB hb05 hb6
    have k16 := k15.below hb6 k15.lt
    have hlt6 := kd6.lt
    clear hW6 hV5 hV45 kd5 hb6 hb05
    by_cases hE : chkE n1 l1 k f t = 0
    case neg =>
      have hEb : (chkE n1 l1 k f t == 0) = false := by rw [beq_eq_false_iff_ne]; exact hE
      have hst : chgS (n1, l1, m1) (k, f, t) = (n1, l1, m1) := by unfold chgS; rw [if_neg hE]
      rw [hst] at Hstep
      clear hE hst
      generalize chkE n1 l1 k f t = E at *
      go_wp2_with fail
      go_roundw
      case rel => exact ⟨j + 1, (n1, l1, m1), by omega, by simp only; omega, rfl, by go_num, ⟨Hstep.out, HV1.out, A1, c1, B1, d1, by simp only; rw [HG1.out]; exact kd6, by simp only; rw [HG1.out]; exact hV46⟩, hb06, k16⟩
      case measure => simp [intOf]; omega
    case pos =>
      have hst : chgS (n1, l1, m1) (k, f, t) = (chN n1 k, chL n1 l1 k f t, m1 + 1) := by unfold chgS; rw [if_pos hE]
      have hv6 := ap_vld (k := k) (f := f) (t := t) HV1.out
      rw [hst] at Hstep
      obtain ⟨e1', e2', _⟩ := ap_ok hE
      unfold apG at k6 hV6
      rw [e1', e2'] at k6 hV6 hv6
      rw [hE]
      generalize chN n1 k = n2 at *
      generalize chL n1 l1 k f t = l2 at *
      generalize hG2 : lst n2 (grL n2 l2) = G2 at *
      have HG2 := Lib.hid hG2
      have HV2 := Lib.hid hv6
      clear hst e1' e2' hE hG2 hv6
      obtain ⟨x0, x1, x2, _, _, _⟩ := k6.threeF
      obtain ⟨y0, y1, y2, z0, z1, z2⟩ := kd6.threeF
      have hneD : some (w.heap.size + 1) ≠ some D := fun e => by injection e with e; omega
      have hwm : IntKind.i64.wrap ((m1 : Int) + 1) = (m1 : Int) + 1 := by rw [IntKind.wrap_i64]; omega
      go_wp2_with fail
      go_roundw
      case rel => exact ⟨j + 1, (n2, l2, m1 + 1), by omega, by simp only; omega, by go_num, by go_num, ⟨Hstep.out, HV2.out, A5, c5, B5, d5, by simp only; rw [HG2.out]; exact set3 kd6 _ _ _, by simp only; rw [HG2.out]; exact (hV6.set3 hD4 _ _ _).mono hsz4⟩, below_set3 hb06 (by omega) _ _ _, ((k16.grown (grownBy_setCell _ D 0 _) hneD).grown (grownBy_setCell _ D 1 _) hneD).grown (grownBy_setCell _ D 2 _) hneD⟩
      case measure => simp [intOf]; omega
end Go.Proofs.YtkflanjlnbdkmaaGreatDoor
