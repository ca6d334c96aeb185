/- dynamic.Run and ref19.Run at any state and list (printed by gen_run.py). -/
import Derived.Test.YtkflanjlnbdkmaaGreatDoorApyP
namespace Go.Proofs.YtkflanjlnbdkmaaGreatDoor
open Go.ChangeShapes Go.WideShapes Go.ChangeAt Go.RowKit

/-- what a list of changes gives at any state -/
def rnR (N : Int) (l : List (Int × Int)) (lab : List Int) (cs : List (Int × Int × Int)) : Nat × List (Int × Int) × Nat × Int :=
  if dvB N l lab = true then if cs.length ≤ 200 then ((chgR N.toNat l cs).1, (chgR N.toNat l cs).2.1, (chgR N.toNat l cs).2.2, 0) else (0, [], 0, 2) else (0, [], 0, 7)
theorem BxO.below {o : Option Nat} {m : Nat} {w w' : World} (h : BxO o m w) (hb : Below w.heap.size w w') : BxO o m w' := fun q e =>
  ⟨(h q e).1, (h q e).2.below hb (h q e).2.lt⟩
def avV (N : Int) (A : Option Addr) (k c : Nat) (B : Option Addr) (m d : Nat) (F : Option Addr) (r f : Nat) (E : Int) : Value := .tuple #[.agg #[.int .i64 N, .slice A k c, .slice B m d], .slice F r f, .int .i64 E]
/-- the state that Apply has returned lies apart from the box -/
def AvK (m : Nat) (l : List (Int × Int)) (G : List Int) (A : Option Addr) (c : Nat) (B : Option Addr) (d : Nat) (o : Option Nat) (w : World) : Prop := DyV w m l G A c B d ∧
  ∀ q, o = some q → (∀ b x, A = some ⟨b, x, none⟩ → 0 < l.length → b ≠ q) ∧ (∀ b x, B = some ⟨b, x, none⟩ → G ≠ [] → b ≠ q)
theorem RI.lt_ {w : World} {A : Option Addr} {l : List Int} (h : RI w A l) {b o : Nat} (hA : A = some ⟨b, o, none⟩) (hl : l ≠ []) : b < w.heap.size := by
  obtain ⟨b', o', e, hc⟩ := h.at_ (k := 0) (List.length_pos_iff.2 hl)
  rw [hA] at e; injection e with e; injection e with e _ _; subst e
  exact lt_of_cell hc
theorem AvK.alloc {m : Nat} {l : List (Int × Int)} {G : List Int} {A : Option Addr} {c : Nat} {B : Option Addr} {d : Nat} {w : World} (h : AvK m l G A c B d none w) (o : Obj) : AvK m l G A c B d (some w.heap.size) (w.alloc o) :=
  ⟨h.1.below (newB _ _), fun q hq => by
    injection hq with hq
    subst hq
    exact ⟨fun b x e hl => by have := h.1.rp.lt e hl; omega, fun b x e hl => by have := h.1.ri.lt_ e hl; omega⟩⟩
/-- what stands behind the region: the new state's box -/
structure RnF (wr : World) (q n : Nat) (l : List (Int × Int)) (G : List Int) (A : Option Addr) (c : Nat) (B : Option Addr) (d : Nat) (w : World) : Prop where
  q0 : wr.heap.size ≤ q
  blk : Blk w q 27 #[.int .i64 (n : Int), .slice A l.length c, .slice B G.length d]
  dy : DyV w wr.heap.size l G A c B d
  bel : Below wr.heap.size wr w
theorem RnF.of_store {wr w : World} {q n : Nat} {l : List (Int × Int)} {G : List Int} {A : Option Addr} {c : Nat} {B : Option Addr} {d : Nat} (hb : Below wr.heap.size wr w) (hq : wr.heap.size ≤ q) (hk : Blk w q 27 #[.int .i64 0, .slice none 0 0, .slice none 0 0])
    (h : AvK wr.heap.size l G A c B d (some q) w) : RnF wr q n l G A c B d (((w.setCell ⟨q, 0, none⟩ (.int .i64 (n : Int))).setCell ⟨q, 1, none⟩ (.slice A l.length c)).setCell ⟨q, 2, none⟩ (.slice B G.length d)) := by
  obtain ⟨hv, ha⟩ := h
  obtain ⟨h1, h2⟩ := ha q rfl
  exact ⟨hq, set3 hk _ _ _, ⟨((hv.rp.set_far h1 0 _).set_far h1 1 _).set_far h1 2 _, hv.an, ((hv.ri.grown (grownBy_setCell _ q 0 _) h2).grown (grownBy_setCell _ q 1 _) h2).grown (grownBy_setCell _ q 2 _) h2, hv.bn, hv.ua, hv.ub⟩, below_set3 hb hq _ _ _⟩
set_option maxRecDepth 100000 in
set_option maxHeartbeats 2000000 in
theorem dRun_bad (A B : Option Addr) (N : Int) (l : List (Int × Int)) (lab : List Int) (c d : Nat) (C : Option Addr) (k cc : Nat) (w : World) (q : Bool) (hval : ∀ W, Below w.heap.size w W → Calls Tryz.prog 27 #[.agg #[.int .i64 N, .slice A l.length c, .slice B lab.length d]] W (RetB (.bool q) W)) (er : Int) (hq : (q = false ∧ er = 7) ∨ (q = true ∧ er = 2 ∧ 200 < k)) :
    Calls Tryz.prog 17 #[.agg #[.int .i64 N, .slice A l.length c, .slice B lab.length d], .slice C k cc] w (RetRn 0 [] [] 0 er w) := by
  have hq2 : (q = false ∧ er = 7) ∨ (q = true ∧ er = 2 ∧ (200 : Int) < (k : Int)) := by
    rcases hq with h | ⟨h1, h2, h3⟩
    · exact .inl h
    · exact .inr ⟨h1, h2, by omega⟩
  clear hq
  go_enter Tryz.func17, Tryz.ntmps17
  go_upto_region 1 with fail
  obtain ⟨W0, hW, k0, k2, hb0, hlt0⟩ := boxed33 w 27 27 (.int .i64 N) (.slice A l.length c) (.slice B lab.length d) (.int .i64 0) (.slice none 0 0) (.slice none 0 0)
  rw [hW]
  obtain ⟨c0, c1, c2, _, _, _⟩ := k0.threeF
  clear hW
  go_wp2_with fail
  refine (hval W0 hb0).mono ?_
  rintro e w1 ⟨rfl, hb1⟩
  have k21 := k2.below hb1 k2.lt
  have hbb := endB hb0 hb1
  obtain ⟨g0, g1, g2, f0, f1, f2⟩ := k21.threeF
  have hk := set3 k21 (.int .i64 0) (.slice none 0 0) (.slice none 0 0)
  obtain ⟨q0, q1, q2, _, _, _⟩ := hk.threeF
  have hbb3 := below_set3 hbb (g := w.heap.size + 1) (by omega) (.int .i64 0) (.slice none 0 0) (.slice none 0 0)
  clear k0 k2 k21 c0 c1 c2 hval hk
  rcases hq2 with ⟨rfl, rfl⟩ | ⟨rfl, rfl, hk2⟩
  · go_wp2_with fail
    refine bodyPost_ret (v := .tuple #[.agg #[.int .i64 0, .slice none 0 0, .slice none 0 0], .int .i64 0, .int .i64 7]) (by simp [results, Tryz.results17, go_sem, q0, q1, q2]) rfl ?_
    exact ⟨none, 0, none, 0, rfl, DyV.of_own (OwnP.nil _ _) (OwnI.nil _ _), hbb3⟩
  · go_wp2_with fail
    refine bodyPost_ret (v := .tuple #[.agg #[.int .i64 0, .slice none 0 0, .slice none 0 0], .int .i64 0, .int .i64 2]) (by simp [results, Tryz.results17, go_sem, q0, q1, q2]) rfl ?_
    exact ⟨none, 0, none, 0, rfl, DyV.of_own (OwnP.nil _ _) (OwnI.nil _ _), hbb3⟩
theorem r19Run_bad (A B : Option Addr) (N : Int) (l : List (Int × Int)) (lab : List Int) (c d : Nat) (C : Option Addr) (k cc : Nat) (w : World) (q : Bool) (hval : ∀ W, Below w.heap.size w W → Calls Tryz.prog 29 #[.agg #[.int .i64 N, .slice A l.length c, .slice B lab.length d]] W (RetB (.bool q) W)) (er : Int) (hq : (q = false ∧ er = 7) ∨ (q = true ∧ er = 2 ∧ 200 < k)) :
    Calls Tryz.prog 18 #[.agg #[.int .i64 N, .slice A l.length c, .slice B lab.length d], .slice C k cc] w (RetRn 0 [] [] 0 er w) := by
  have hq2 : (q = false ∧ er = 7) ∨ (q = true ∧ er = 2 ∧ (200 : Int) < (k : Int)) := by
    rcases hq with h | ⟨h1, h2, h3⟩
    · exact .inl h
    · exact .inr ⟨h1, h2, by omega⟩
  clear hq
  go_enter Tryz.func18, Tryz.ntmps18
  go_upto_region 1 with fail
  obtain ⟨W0, hW, k0, k2, hb0, hlt0⟩ := boxed33 w 27 27 (.int .i64 N) (.slice A l.length c) (.slice B lab.length d) (.int .i64 0) (.slice none 0 0) (.slice none 0 0)
  rw [hW]
  obtain ⟨c0, c1, c2, _, _, _⟩ := k0.threeF
  clear hW
  go_wp2_with fail
  refine (hval W0 hb0).mono ?_
  rintro e w1 ⟨rfl, hb1⟩
  have k21 := k2.below hb1 k2.lt
  have hbb := endB hb0 hb1
  obtain ⟨g0, g1, g2, f0, f1, f2⟩ := k21.threeF
  have hk := set3 k21 (.int .i64 0) (.slice none 0 0) (.slice none 0 0)
  obtain ⟨q0, q1, q2, _, _, _⟩ := hk.threeF
  have hbb3 := below_set3 hbb (g := w.heap.size + 1) (by omega) (.int .i64 0) (.slice none 0 0) (.slice none 0 0)
  clear k0 k2 k21 c0 c1 c2 hval hk
  rcases hq2 with ⟨rfl, rfl⟩ | ⟨rfl, rfl, hk2⟩
  · go_wp2_with fail
    refine bodyPost_ret (v := .tuple #[.agg #[.int .i64 0, .slice none 0 0, .slice none 0 0], .int .i64 0, .int .i64 7]) (by simp [results, Tryz.results18, go_sem, q0, q1, q2]) rfl ?_
    exact ⟨none, 0, none, 0, rfl, DyV.of_own (OwnP.nil _ _) (OwnI.nil _ _), hbb3⟩
  · go_wp2_with fail
    refine bodyPost_ret (v := .tuple #[.agg #[.int .i64 0, .slice none 0 0, .slice none 0 0], .int .i64 0, .int .i64 2]) (by simp [results, Tryz.results18, go_sem, q0, q1, q2]) rfl ?_
    exact ⟨none, 0, none, 0, rfl, DyV.of_own (OwnP.nil _ _) (OwnI.nil _ _), hbb3⟩
set_option maxRecDepth 100000 in
set_option maxHeartbeats 4000000 in
theorem r19run_good {n : Nat} {l : List (Int × Int)} (hv : Vld n l) (A : Option Addr) (c : Nat) (B : Option Addr) (d : Nat) (C : Option Addr) (cs : List (Int × Int × Int)) (cc : Nat) (w : World) (m : Nat) (h : DyV w m l (lst n (grL n l)) A c B d) (hC : RC w C cs) (hcs : cs.length ≤ 200) :
    Calls Tryz.prog 18 #[.agg #[.int .i64 (n : Int), .slice A l.length c, .slice B (lst n (grL n l)).length d], .slice C cs.length cc] w
      (RetRn ((chgR n l cs).1 : Nat) (chgR n l cs).2.1 (lst (chgR n l cs).1 (grL (chgR n l cs).1 (chgR n l cs).2.1)) ((chgR n l cs).2.2 : Nat) 0 w) := by
  have hl := hv.1.2.1
  have hlabl : (lst n (grL n l)).length ≤ 100000 := by rw [lst_length]; have := hv.1.1; omega
  have hdv : dvB n l (lst n (grL n l)) = true := by
    unfold dvB
    rw [hv.valE, Int.toNat_natCast]
    simp [eqB]
  have hval := fun W (h1 : RP W A l) (h2 : RI W B (lst n (grL n l))) => r19Valid_any A B n l (lst n (grL n l)) c d W h1 hl h2 hlabl
  rw [hdv] at hval
  have hcop := fun W (h1 : RP W A l) => r19New_any A n l c W h1 h.an hl
  rw [nGn_vld hv, nGl_vld hv, hv.valE, show gLb n l = lst n (grL n l) by unfold gLb; rw [nGn_vld hv, nGl_vld hv, Int.toNat_natCast]] at hcop
  have Hini := Lib.hid (show chgR n l (cs.take 0) = (n, l, 0) by rw [List.take_zero]; rfl)
  obtain ⟨s, hs⟩ : ∃ s, chgR n l cs = s := ⟨_, rfl⟩
  rw [hs]
  obtain ⟨G, hG⟩ : ∃ G, lst n (grL n l) = G := ⟨_, rfl⟩
  rw [hG] at h hval hcop hlabl ⊢
  have HG := Lib.hid hG; have Hs := Lib.hid hs; have HV := Lib.hid hv
  have hgt : ¬ (200 : Int) < (cs.length : Int) := by omega
  have hr := h.rp; have hi := h.ri
  have HC0 := Lib.hid hC
  clear hdv hG hs hv h
  go_enter Tryz.func18, Tryz.ntmps18
  go_upto_region 1 with fail
  obtain ⟨W0, hW, k0, k1, hb0, hlt0⟩ := boxed33 w 27 27 (.int .i64 (n : Int)) (.slice A l.length c) (.slice B G.length d) (.int .i64 0) (.slice none 0 0) (.slice none 0 0)
  rw [hW]
  obtain ⟨c0, c1, c2, _, _, _⟩ := k0.threeF
  have hr0 := hr.below hb0
  have hi0 := hi.below hb0
  have Hval := Lib.hid (hval W0 hr0 hi0)
  clear hW hr hi hC hval
  go_wp2_with fail
  refine Hval.out.mono ?_
  rintro e w1 ⟨rfl, hb1⟩
  have k01 := k0.below hb1 k0.lt
  have k11 := k1.below hb1 k1.lt
  obtain ⟨c0, c1, c2, _, _, _⟩ := k01.threeF
  have hbb1 := endB hb0 hb1
  have Hcop := Lib.hid (hcop w1 (hr0.below hb1))
  clear Hval hcop hr0 hi0 k0 k1 hb1
  go_wp2_with fail
  refine Hcop.out.mono ?_
  rintro e w2 ⟨A2, c2', B2, d2', rfl, hop2, hoi2, hb2⟩
  have hV2 := DyV.of_own hop2 hoi2
  have hw1 : w.heap.size + 1 < w1.heap.size := k11.lt
  have k12 := k11.below hb2 k11.lt
  have hbb2 := endB hbb1 hb2
  have hsz2 := hb2.size
  clear Hcop hop2 hoi2 k11 k01 c0 c1 c2 hb2
  go_upto_region 6 with fail
  obtain ⟨W3, hW3, kD, hb3, _⟩ := boxed3 w2 27 (.int .i64 (n : Int)) (.slice A2 l.length c2') (.slice B2 G.length d2')
  rw [hW3]
  have hJ0 : RunJ n l cs w2.heap.size w1.heap.size 0 (n, l, 0) W3 := ⟨Hini.out, HV.out, A2, c2', B2, d2', by simp only; rw [HG.out]; exact kD, by simp only; rw [HG.out]; exact hV2.below hb3⟩
  have k13 := k12.below hb3 k12.lt
  have hbb3 := endB hbb2 hb3
  have hD3 : w2.heap.size < W3.heap.size := kD.lt
  have HJ0 := Lib.hid hJ0
  clear hW3 kD hV2 k12 hJ0 hbb2 hbb1 hb3 hb0
  obtain ⟨D, hD⟩ : ∃ D, w2.heap.size = D := ⟨_, rfl⟩
  obtain ⟨base, hbase⟩ : ∃ D, w1.heap.size = D := ⟨_, rfl⟩
  rw [hD] at HJ0 hD3 hsz2 ⊢
  rw [hbase] at HJ0 hw1 hsz2
  clear hD hbase Hini HG
  go_wp2_with fail
  go_loopw [9, 10] (fun km ki wr => ∃ (j : Nat) (s1 : Nat × List (Int × Int) × Nat), j ≤ cs.length ∧ s1.2.2 ≤ j ∧ km = .int .i64 (s1.2.2 : Nat) ∧ ki = .int .i64 j ∧ RunJ n l cs D base j s1 wr ∧ Below w.heap.size w wr ∧ Blk wr (w.heap.size + 1) 27 #[.int .i64 0, .slice none 0 0, .slice none 0 0]) (fun _ ki _ => cs.length - (intOf ki).toNat)
  case atStart => exact ⟨0, (n, l, 0), by omega, by simp, rfl, rfl, HJ0.out, hbb3, k13⟩
  case round =>
    obtain ⟨j, ⟨n1, l1, m1⟩, hj, hmj, rfl, rfl, ⟨hrun, hv1, A1, c1, B1, d1, kd, hV1⟩, hbbw, k1w⟩ := hrel
    simp only at hmj hv1 kd hV1
    have hDw := kd.lt
    by_cases hjl : j < cs.length
    case neg =>
      rw [List.take_of_length_le (by omega), Hs.out] at hrun
      subst hrun
      have hjl' : ¬ (j : Int) < (cs.length : Int) := by omega
      simp only
      generalize lst n1 (grL n1 l1) = G1 at *
      obtain ⟨d0, d1', d2, _, _, _⟩ := kd.threeF
      obtain ⟨r0, r1, r2, f0, f1, f2⟩ := k1w.threeF
      have hk := set3 k1w (.int .i64 (n1 : Int)) (.slice A1 l1.length c1) (.slice B1 G1.length d1)
      have hbb4 := below_set3 hbbw (g := w.heap.size + 1) (by omega) (.int .i64 (n1 : Int)) (.slice A1 l1.length c1) (.slice B1 G1.length d1)
      have hV4 := hV1.set3 (D := w.heap.size + 1) hw1 (.int .i64 (n1 : Int)) (.slice A1 l1.length c1) (.slice B1 G1.length d1)
      obtain ⟨W4, hW4⟩ : ∃ W, ((wr.setCell ⟨w.heap.size + 1, 0, none⟩ (.int .i64 (n1 : Int))).setCell ⟨w.heap.size + 1, 1, none⟩ (.slice A1 l1.length c1)).setCell ⟨w.heap.size + 1, 2, none⟩ (.slice B1 G1.length d1) = W := ⟨_, rfl⟩
      rw [hW4] at hk hbb4 hV4
      obtain ⟨q0, q1, q2, _, _, _⟩ := hk.threeF
      have HV4 := Lib.hid hV4; have Hbb := Lib.hid hbb4
      clear hV1 hV4 hbb4 hk k1w kd
      go_wp2_with fail
      refine bodyPost_ret (v := .tuple #[.agg #[.int .i64 (n1 : Int), .slice A1 l1.length c1, .slice B1 G1.length d1], .int .i64 m1, .int .i64 0]) (by simp [results, Tryz.results18, go_sem, q0, q1, q2]) rfl ?_
      exact ⟨A1, c1, B1, d1, rfl, HV4.out.mono (by omega), Hbb.out⟩
    case pos =>
    have hjl' : (j : Int) < (cs.length : Int) := by omega
    have hj0 : (0 : Int) ≤ (j : Int) := by omega
    obtain ⟨b, o, hCa, hc0, hc1, hc2⟩ := (HC0.out.below hbbw) j hjl
    obtain ⟨⟨k, f, t⟩, hq⟩ : ∃ q, cs.getD j (0, 0, 0) = q := ⟨_, rfl⟩
    rw [hq] at hc0 hc1 hc2
    simp only at hc0 hc1 hc2
    have hq' : cs[j] = (k, f, t) := by rw [← hq]; simp [List.getD, hjl]
    have hstep : chgR n l (cs.take (j + 1)) = chgS (n1, l1, m1) (k, f, t) := by
      rw [List.take_succ_eq_append_getElem hjl, chgR_snoc, hrun, hq']
    have Hstep := Lib.hid hstep; have HV1 := Lib.hid hv1
    have Hap := Lib.hid (fun W (h1 : DyV W base l1 (lst n1 (grL n1 l1)) A1 c1 B1 d1) => r19Apply_good HV1.out k f t A1 c1 B1 d1 W base h1)
    obtain ⟨G1, hG1⟩ : ∃ G1, lst n1 (grL n1 l1) = G1 := ⟨_, rfl⟩
    rw [hG1] at kd hV1 Hap
    have HG1 := Lib.hid hG1
    clear hG1
    subst hCa
    clear hstep hv1 hq hq' hrun
    go_upto_region 10 with fail
    go_cut [11, 12, 13] (fun s11 s12 s13 wx => ∃ q A5 c5 B5 d5 F5 f5, s11 = Value.pointer (some ⟨q, 0, none⟩) ∧ s12 = Value.slice F5 (apF n1 l1 k f t).length f5 ∧ s13 = Value.int .i64 (chkE n1 l1 k f t) ∧ RnF wr q (apN n1 l1 k f t) (apL n1 l1 k f t) (apG n1 l1 k f t) A5 c5 B5 d5 wx)
    case first =>
      refine wp_region_tree [5, 10, 11] (fun w' => Below wr.heap.size wr w') (fun w' => BxO none wr.heap.size w') 14 [0, 1, 2, 3, 4, 5, 6, 7, 8, 9, 10, 11, 12, 13] (by rfl) (by decide) (by kernel_rfl) (by kernel_rfl) (Below.refl _ _).drew BxO.no ?_
      refine TxtT.pure 0 (by rfl) (by rw [List.getElem?_toArray]; rfl) (by rfl) (by kernel_rfl) (by rfl) ?_; apply Exists.intro; refine ⟨fun w1 hS1 => ?_, ?_⟩; (focus ((obtain ⟨g0, g1, g2, _, _, _⟩ := (kd.below hS1 kd.lt).threeF); go_simp; with_reducible rfl))
      rw [show List.erase [0, 1, 2, 3, 4, 5, 6, 7, 8, 9, 10, 11, 12, 13] 0 = [1, 2, 3, 4, 5, 6, 7, 8, 9, 10, 11, 12, 13] from rfl]; simp only [Act.put, List.setIfInBounds_toArray, List.set_cons_zero, List.set_cons_succ]
      refine TxtT.pure 1 (by rfl) (by rw [List.getElem?_toArray]; rfl) (by rfl) (by kernel_rfl) (by rfl) ?_; apply Exists.intro; refine ⟨fun w1 hS1 => ?_, ?_⟩; (focus (skip; go_simp; with_reducible rfl))
      rw [show List.erase [1, 2, 3, 4, 5, 6, 7, 8, 9, 10, 11, 12, 13] 1 = [2, 3, 4, 5, 6, 7, 8, 9, 10, 11, 12, 13] from rfl]; simp only [Act.put, List.setIfInBounds_toArray, List.set_cons_zero, List.set_cons_succ]
      refine TxtT.pure 2 (by rfl) (by rw [List.getElem?_toArray]; rfl) (by rfl) (by kernel_rfl) (by rfl) ?_; apply Exists.intro; refine ⟨fun w1 hS1 => ?_, ?_⟩; (focus (skip; go_simp; with_reducible rfl))
      rw [show List.erase [2, 3, 4, 5, 6, 7, 8, 9, 10, 11, 12, 13] 2 = [3, 4, 5, 6, 7, 8, 9, 10, 11, 12, 13] from rfl]; simp only [Act.put, List.setIfInBounds_toArray, List.set_cons_zero, List.set_cons_succ]
      refine TxtT.pure 3 (by rfl) (by rw [List.getElem?_toArray]; rfl) (by rfl) (by kernel_rfl) (by rfl) ?_; apply Exists.intro; refine ⟨fun w1 hS1 => ?_, ?_⟩; (focus (skip; go_simp; with_reducible rfl))
      rw [show List.erase [3, 4, 5, 6, 7, 8, 9, 10, 11, 12, 13] 3 = [4, 5, 6, 7, 8, 9, 10, 11, 12, 13] from rfl]; simp only [Act.put, List.setIfInBounds_toArray, List.set_cons_zero, List.set_cons_succ]
      refine TxtT.pure 4 (by rfl) (by rw [List.getElem?_toArray]; rfl) (by rfl) (by kernel_rfl) (by rfl) ?_; apply Exists.intro; refine ⟨fun w1 hS1 => ?_, ?_⟩; (focus ((have v0 := (hS1.cell (lt_of_cell hc0)).trans hc0; have v1 := (hS1.cell (lt_of_cell hc1)).trans hc1; have v2 := (hS1.cell (lt_of_cell hc2)).trans hc2); go_simp; with_reducible rfl))
      rw [show List.erase [4, 5, 6, 7, 8, 9, 10, 11, 12, 13] 4 = [5, 6, 7, 8, 9, 10, 11, 12, 13] from rfl]; simp only [Act.put, List.setIfInBounds_toArray, List.set_cons_zero, List.set_cons_succ]
      refine TxtT.two 5 10 (by kernel_rfl) (by rw [List.getElem?_toArray]; rfl) (by rw [List.getElem?_toArray]; rfl) (by rfl) (by rfl) (by rfl) (by rfl) (fun v => ∃ A5 c5 B5 d5 F5 f5, v = avV (apN n1 l1 k f t : Nat) A5 (apL n1 l1 k f t).length c5 B5 (apG n1 l1 k f t).length d5 F5 (apF n1 l1 k f t).length f5 (chkE n1 l1 k f t)) (fun v w' => BxO none wr.heap.size w' ∧ ∀ A5 c5 B5 d5 F5 f5, v = avV (apN n1 l1 k f t : Nat) A5 (apL n1 l1 k f t).length c5 B5 (apG n1 l1 k f t).length d5 F5 (apF n1 l1 k f t).length f5 (chkE n1 l1 k f t) → AvK wr.heap.size (apL n1 l1 k f t) (apG n1 l1 k f t) A5 c5 B5 d5 none w') (fun v => ∃ q, v = Value.pointer (some ⟨q, 0, none⟩)) (fun v w' => ∃ q, v = Value.pointer (some ⟨q, 0, none⟩) ∧ BxO (some q) wr.heap.size w') (fun w1 hS1 hJ1 => ?_) (fun w1 hS1 hJ1 => ?_) ?_ ?_
      · refine Eff.call (f := 13) (args := #[.agg #[.int .i64 (n1 : Int), .slice A1 l1.length c1, .slice B1 G1.length d1], .agg #[.int .i64 k, .int .i64 f, .int .i64 t]]) (by go_simp) ((Hap.out w1 (hV1.below hS1)).mono ?_)
        rintro e w' ⟨A5, c5, B5, d5, F5, f5, rfl, hv, _, hb⟩
        refine ⟨_, rfl, hS1.trans (hb.mono hS1.size), ⟨A5, c5, B5, d5, F5, f5, rfl⟩, BxO.below hJ1 hb, fun A2 c2 B2 d2 F2 f2 e => ?_⟩
        simp only [avV, Value.tuple.injEq, Value.agg.injEq, Array.mk.injEq, List.cons.injEq, Value.slice.injEq, true_and, and_true] at e
        obtain ⟨⟨⟨rfl, rfl⟩, rfl, rfl⟩, rfl, rfl⟩ := e
        exact ⟨hv.mono hS1.size, fun q hq => ⟨fun b x e _ => by have := hv.ua b x e; have := (hJ1 q hq).2.lt; omega, fun b x e _ => by have := hv.ub b x e; have := (hJ1 q hq).2.lt; omega⟩⟩
      · refine Eff.value (w' := w1.alloc (.cells #[.int .i64 0, .slice none 0 0, .slice none 0 0] 27)) (v := .pointer (some ⟨w1.heap.size, 0, none⟩)) (by go_simp) ⟨hS1.trans ((newB _ _).mono hS1.size), ⟨_, rfl⟩, _, rfl, BxO.new hS1.size⟩
      ·
        rintro _ ⟨A5, c5, B5, d5, F5, f5, rfl⟩
        unfold avV
        rw [show List.erase [5, 6, 7, 8, 9, 10, 11, 12, 13] 5 = [6, 7, 8, 9, 10, 11, 12, 13] from rfl]; simp only [Act.put, List.setIfInBounds_toArray, List.set_cons_zero, List.set_cons_succ]
        refine TxtT.pure 6 (by rfl) (by rw [List.getElem?_toArray]; rfl) (by rfl) (by kernel_rfl) (by rfl) ?_; apply Exists.intro; refine ⟨fun w1 hS1 => ?_, ?_⟩; (focus (skip; go_simp; with_reducible rfl))
        rw [show List.erase [6, 7, 8, 9, 10, 11, 12, 13] 6 = [7, 8, 9, 10, 11, 12, 13] from rfl]; simp only [Act.put, List.setIfInBounds_toArray, List.set_cons_zero, List.set_cons_succ]
        refine TxtT.pure 7 (by rfl) (by rw [List.getElem?_toArray]; rfl) (by rfl) (by kernel_rfl) (by rfl) ?_; apply Exists.intro; refine ⟨fun w1 hS1 => ?_, ?_⟩; (focus (skip; go_simp; with_reducible rfl))
        rw [show List.erase [7, 8, 9, 10, 11, 12, 13] 7 = [8, 9, 10, 11, 12, 13] from rfl]; simp only [Act.put, List.setIfInBounds_toArray, List.set_cons_zero, List.set_cons_succ]
        refine TxtT.pure 8 (by rfl) (by rw [List.getElem?_toArray]; rfl) (by rfl) (by kernel_rfl) (by rfl) ?_; apply Exists.intro; refine ⟨fun w1 hS1 => ?_, ?_⟩; (focus (skip; go_simp; with_reducible rfl))
        rw [show List.erase [8, 9, 10, 11, 12, 13] 8 = [9, 10, 11, 12, 13] from rfl]; simp only [Act.put, List.setIfInBounds_toArray, List.set_cons_zero, List.set_cons_succ]
        refine TxtT.pure 9 (by rfl) (by rw [List.getElem?_toArray]; rfl) (by rfl) (by kernel_rfl) (by rfl) ?_; apply Exists.intro; refine ⟨fun w1 hS1 => ?_, ?_⟩; (focus (skip; go_simp; with_reducible rfl))
        rw [show List.erase [9, 10, 11, 12, 13] 9 = [10, 11, 12, 13] from rfl]; simp only [Act.put, List.setIfInBounds_toArray, List.set_cons_zero, List.set_cons_succ]
        refine TxtT.one 10 (by kernel_rfl) (by rw [List.getElem?_toArray]; rfl) (by rfl) (by rfl) (fun v => ∃ q, v = Value.pointer (some ⟨q, 0, none⟩)) (fun v w' => ∃ q, v = Value.pointer (some ⟨q, 0, none⟩) ∧ (fun w' => BxO (some q) wr.heap.size w' ∧ ∀ A2 c2 B2 d2 F2 f2, avV (apN n1 l1 k f t : Nat) A5 (apL n1 l1 k f t).length c5 B5 (apG n1 l1 k f t).length d5 F5 (apF n1 l1 k f t).length f5 (chkE n1 l1 k f t) = avV (apN n1 l1 k f t : Nat) A2 (apL n1 l1 k f t).length c2 B2 (apG n1 l1 k f t).length d2 F2 (apF n1 l1 k f t).length f2 (chkE n1 l1 k f t) → AvK wr.heap.size (apL n1 l1 k f t) (apG n1 l1 k f t) A2 c2 B2 d2 (some q) w') w') (fun w1 hS1 hJ1 => ?_) ?_
        · refine Eff.value (w' := w1.alloc (.cells #[.int .i64 0, .slice none 0 0, .slice none 0 0] 27)) (v := .pointer (some ⟨w1.heap.size, 0, none⟩)) (by go_simp) ⟨hS1.trans ((newB _ _).mono hS1.size), ⟨_, rfl⟩, _, rfl, BxO.new hS1.size, fun A2 c2 B2 d2 F2 f2 e => (hJ1.2 A2 c2 B2 d2 F2 f2 e).alloc _⟩
        rintro _ ⟨q, rfl⟩
        rw [show List.erase [10, 11, 12, 13] 10 = [11, 12, 13] from rfl]; simp only [Act.put, List.setIfInBounds_toArray, List.set_cons_zero, List.set_cons_succ]
        refine TxtT.weakJ (J2 := (fun w' => BxO (some q) wr.heap.size w' ∧ ∀ A2 c2 B2 d2 F2 f2, avV (apN n1 l1 k f t : Nat) A5 (apL n1 l1 k f t).length c5 B5 (apG n1 l1 k f t).length d5 F5 (apF n1 l1 k f t).length f5 (chkE n1 l1 k f t) = avV (apN n1 l1 k f t : Nat) A2 (apL n1 l1 k f t).length c2 B2 (apG n1 l1 k f t).length d2 F2 (apF n1 l1 k f t).length f2 (chkE n1 l1 k f t) → AvK wr.heap.size (apL n1 l1 k f t) (apG n1 l1 k f t) A2 c2 B2 d2 (some q) w')) (fun w1 h => by obtain ⟨q', hq, h⟩ := h; injection hq with hq; injection hq with hq; injection hq with hq _ _; subst hq; exact h) ?_
        refine TxtT.one 11 (by kernel_rfl) (by rw [List.getElem?_toArray]; rfl) (by rfl) (by rfl) (fun v => v = undef) (fun _ w' => RnF wr q (apN n1 l1 k f t) (apL n1 l1 k f t) (apG n1 l1 k f t) A5 c5 B5 d5 w') (fun w1 hS1 hJ1 => ?_) ?_
        · obtain ⟨hq, hk⟩ := hJ1.1 q rfl
          obtain ⟨g0, g1, g2, z0, z1, z2⟩ := hk.threeF
          have hst := RnF.of_store (n := apN n1 l1 k f t) hS1 hq hk (hJ1.2 _ _ _ _ _ _ rfl)
          exact Eff.skip (w' := ((w1.setCell ⟨q, 0, none⟩ (.int .i64 (apN n1 l1 k f t : Nat))).setCell ⟨q, 1, none⟩ (.slice A5 (apL n1 l1 k f t).length c5)).setCell ⟨q, 2, none⟩ (.slice B5 (apG n1 l1 k f t).length d5)) (by go_simp) ⟨hst.bel, rfl, hst⟩
        rintro _ rfl
        rw [show List.erase [11, 12, 13] 11 = [12, 13] from rfl]; simp only [Act.put]
        refine TxtT.pure 12 (by rfl) (by rw [List.getElem?_toArray]; rfl) (by rfl) (by kernel_rfl) (by rfl) ?_; apply Exists.intro; refine ⟨fun w1 hS1 => ?_, ?_⟩; (focus (skip; go_simp; with_reducible rfl))
        rw [show List.erase [12, 13] 12 = [13] from rfl]; simp only [Act.put, List.setIfInBounds_toArray, List.set_cons_zero, List.set_cons_succ]
        refine TxtT.pure 13 (by rfl) (by rw [List.getElem?_toArray]; rfl) (by rfl) (by kernel_rfl) (by rfl) ?_; apply Exists.intro; refine ⟨fun w1 hS1 => ?_, ?_⟩; (focus (skip; go_simp; with_reducible rfl))
        rw [show List.erase [13] 13 = [] from rfl]; simp only [Act.put, List.setIfInBounds_toArray, List.set_cons_zero, List.set_cons_succ]
        refine ⟨rfl, fun w1 hS1 hJ1 => ?_⟩
        go_wp2_with fail
        go_meet
        exact ⟨q, A5, c5, B5, d5, F5, f5, rfl, rfl, rfl, hJ1⟩
      ·
        rintro _ ⟨q, rfl⟩
        rw [show List.erase [5, 6, 7, 8, 9, 10, 11, 12, 13] 10 = [5, 6, 7, 8, 9, 11, 12, 13] from rfl]; simp only [Act.put, List.setIfInBounds_toArray, List.set_cons_zero, List.set_cons_succ]
        refine TxtT.weakJ (J2 := fun w' => BxO (some q) wr.heap.size w') (fun w1 h => by obtain ⟨q', hq, h⟩ := h; injection hq with hq; injection hq with hq; injection hq with hq _ _; subst hq; exact h) ?_
        refine TxtT.one 5 (by kernel_rfl) (by rw [List.getElem?_toArray]; rfl) (by rfl) (by rfl) (fun v => ∃ A5 c5 B5 d5 F5 f5, v = avV (apN n1 l1 k f t : Nat) A5 (apL n1 l1 k f t).length c5 B5 (apG n1 l1 k f t).length d5 F5 (apF n1 l1 k f t).length f5 (chkE n1 l1 k f t)) (fun v w' => BxO (some q) wr.heap.size w' ∧ ∀ A5 c5 B5 d5 F5 f5, v = avV (apN n1 l1 k f t : Nat) A5 (apL n1 l1 k f t).length c5 B5 (apG n1 l1 k f t).length d5 F5 (apF n1 l1 k f t).length f5 (chkE n1 l1 k f t) → AvK wr.heap.size (apL n1 l1 k f t) (apG n1 l1 k f t) A5 c5 B5 d5 (some q) w') (fun w1 hS1 hJ1 => ?_) ?_
        · refine Eff.call (f := 13) (args := #[.agg #[.int .i64 (n1 : Int), .slice A1 l1.length c1, .slice B1 G1.length d1], .agg #[.int .i64 k, .int .i64 f, .int .i64 t]]) (by go_simp) ((Hap.out w1 (hV1.below hS1)).mono ?_)
          rintro e w' ⟨A5, c5, B5, d5, F5, f5, rfl, hv, _, hb⟩
          refine ⟨_, rfl, hS1.trans (hb.mono hS1.size), ⟨A5, c5, B5, d5, F5, f5, rfl⟩, BxO.below hJ1 hb, fun A2 c2 B2 d2 F2 f2 e => ?_⟩
          simp only [avV, Value.tuple.injEq, Value.agg.injEq, Array.mk.injEq, List.cons.injEq, Value.slice.injEq, true_and, and_true] at e
          obtain ⟨⟨⟨rfl, rfl⟩, rfl, rfl⟩, rfl, rfl⟩ := e
          exact ⟨hv.mono hS1.size, fun q hq => ⟨fun b x e _ => by have := hv.ua b x e; have := (hJ1 q hq).2.lt; omega, fun b x e _ => by have := hv.ub b x e; have := (hJ1 q hq).2.lt; omega⟩⟩
        rintro _ ⟨A5, c5, B5, d5, F5, f5, rfl⟩
        unfold avV
        rw [show List.erase [5, 6, 7, 8, 9, 11, 12, 13] 5 = [6, 7, 8, 9, 11, 12, 13] from rfl]; simp only [Act.put, List.setIfInBounds_toArray, List.set_cons_zero, List.set_cons_succ]
        refine TxtT.pure 6 (by rfl) (by rw [List.getElem?_toArray]; rfl) (by rfl) (by kernel_rfl) (by rfl) ?_; apply Exists.intro; refine ⟨fun w1 hS1 => ?_, ?_⟩; (focus (skip; go_simp; with_reducible rfl))
        rw [show List.erase [6, 7, 8, 9, 11, 12, 13] 6 = [7, 8, 9, 11, 12, 13] from rfl]; simp only [Act.put, List.setIfInBounds_toArray, List.set_cons_zero, List.set_cons_succ]
        refine TxtT.pure 7 (by rfl) (by rw [List.getElem?_toArray]; rfl) (by rfl) (by kernel_rfl) (by rfl) ?_; apply Exists.intro; refine ⟨fun w1 hS1 => ?_, ?_⟩; (focus (skip; go_simp; with_reducible rfl))
        rw [show List.erase [7, 8, 9, 11, 12, 13] 7 = [8, 9, 11, 12, 13] from rfl]; simp only [Act.put, List.setIfInBounds_toArray, List.set_cons_zero, List.set_cons_succ]
        refine TxtT.pure 8 (by rfl) (by rw [List.getElem?_toArray]; rfl) (by rfl) (by kernel_rfl) (by rfl) ?_; apply Exists.intro; refine ⟨fun w1 hS1 => ?_, ?_⟩; (focus (skip; go_simp; with_reducible rfl))
        rw [show List.erase [8, 9, 11, 12, 13] 8 = [9, 11, 12, 13] from rfl]; simp only [Act.put, List.setIfInBounds_toArray, List.set_cons_zero, List.set_cons_succ]
        refine TxtT.pure 9 (by rfl) (by rw [List.getElem?_toArray]; rfl) (by rfl) (by kernel_rfl) (by rfl) ?_; apply Exists.intro; refine ⟨fun w1 hS1 => ?_, ?_⟩; (focus (skip; go_simp; with_reducible rfl))
        rw [show List.erase [9, 11, 12, 13] 9 = [11, 12, 13] from rfl]; simp only [Act.put, List.setIfInBounds_toArray, List.set_cons_zero, List.set_cons_succ]
        refine TxtT.one 11 (by kernel_rfl) (by rw [List.getElem?_toArray]; rfl) (by rfl) (by rfl) (fun v => v = undef) (fun _ w' => RnF wr q (apN n1 l1 k f t) (apL n1 l1 k f t) (apG n1 l1 k f t) A5 c5 B5 d5 w') (fun w1 hS1 hJ1 => ?_) ?_
        · obtain ⟨hq, hk⟩ := hJ1.1 q rfl
          obtain ⟨g0, g1, g2, z0, z1, z2⟩ := hk.threeF
          have hst := RnF.of_store (n := apN n1 l1 k f t) hS1 hq hk (hJ1.2 _ _ _ _ _ _ rfl)
          exact Eff.skip (w' := ((w1.setCell ⟨q, 0, none⟩ (.int .i64 (apN n1 l1 k f t : Nat))).setCell ⟨q, 1, none⟩ (.slice A5 (apL n1 l1 k f t).length c5)).setCell ⟨q, 2, none⟩ (.slice B5 (apG n1 l1 k f t).length d5)) (by go_simp) ⟨hst.bel, rfl, hst⟩
        rintro _ rfl
        rw [show List.erase [11, 12, 13] 11 = [12, 13] from rfl]; simp only [Act.put]
        refine TxtT.pure 12 (by rfl) (by rw [List.getElem?_toArray]; rfl) (by rfl) (by kernel_rfl) (by rfl) ?_; apply Exists.intro; refine ⟨fun w1 hS1 => ?_, ?_⟩; (focus (skip; go_simp; with_reducible rfl))
        rw [show List.erase [12, 13] 12 = [13] from rfl]; simp only [Act.put, List.setIfInBounds_toArray, List.set_cons_zero, List.set_cons_succ]
        refine TxtT.pure 13 (by rfl) (by rw [List.getElem?_toArray]; rfl) (by rfl) (by kernel_rfl) (by rfl) ?_; apply Exists.intro; refine ⟨fun w1 hS1 => ?_, ?_⟩; (focus (skip; go_simp; with_reducible rfl))
        rw [show List.erase [13] 13 = [] from rfl]; simp only [Act.put, List.setIfInBounds_toArray, List.set_cons_zero, List.set_cons_succ]
        refine ⟨rfl, fun w1 hS1 hJ1 => ?_⟩
        go_wp2_with fail
        go_meet
        exact ⟨q, A5, c5, B5, d5, F5, f5, rfl, rfl, rfl, hJ1⟩
    obtain ⟨q, A5, c5, B5, d5, F5, f5, rfl, rfl, rfl, hJ⟩ := hcut
    obtain ⟨W6, hW6⟩ : ∃ W, W = wc := ⟨_, rfl⟩
    subst hW6
    obtain ⟨hq0, k6, hV6, hb6⟩ := hJ
    have kd6 := kd.below hb6 kd.lt
    have hV46 := hV1.below hb6
    have hb06 := endB hbbw hb6
    have k16 := k1w.below hb6 k1w.lt
    have hsz4 : base ≤ wr.heap.size := by omega
    have hD4 : D < wr.heap.size := kd.lt
    have hlt6 := kd6.lt
    clear kd hV1 k1w hb6 Hap
    by_cases hE : chkE n1 l1 k f t = 0
    case neg =>
      have hEb : (chkE n1 l1 k f t == 0) = false := by rw [beq_eq_false_iff_ne]; exact hE
      have hst : chgS (n1, l1, m1) (k, f, t) = (n1, l1, m1) := by unfold chgS; rw [if_neg hE]
      rw [hst] at Hstep
      clear hE hst
      generalize chkE n1 l1 k f t = E at *
      go_wp2_with fail
      go_roundw
      case rel => exact ⟨j + 1, (n1, l1, m1), by omega, by simp only; omega, rfl, by go_num, ⟨Hstep.out, HV1.out, A1, c1, B1, d1, by simp only; rw [HG1.out]; exact kd6, by simp only; rw [HG1.out]; exact hV46⟩, hb06, k16⟩
      case measure => simp [intOf]; omega
    case pos =>
      have hst : chgS (n1, l1, m1) (k, f, t) = (chN n1 k, chL n1 l1 k f t, m1 + 1) := by unfold chgS; rw [if_pos hE]
      have hv6 := ap_vld (k := k) (f := f) (t := t) HV1.out
      rw [hst] at Hstep
      obtain ⟨e1', e2', _⟩ := ap_ok hE
      unfold apG at k6 hV6
      rw [e1', e2'] at k6 hV6 hv6
      rw [hE]
      generalize chN n1 k = n2 at *
      generalize chL n1 l1 k f t = l2 at *
      generalize hG2 : lst n2 (grL n2 l2) = G2 at *
      have HG2 := Lib.hid hG2
      have HV2 := Lib.hid hv6
      clear hst e1' e2' hE hG2 hv6
      obtain ⟨x0, x1, x2, _, _, _⟩ := k6.threeF
      obtain ⟨y0, y1, y2, z0, z1, z2⟩ := kd6.threeF
      have hneD : some (w.heap.size + 1) ≠ some D := fun e => by injection e with e; omega
      have hwm : IntKind.i64.wrap ((m1 : Int) + 1) = (m1 : Int) + 1 := by rw [IntKind.wrap_i64]; omega
      go_wp2_with fail
      go_roundw
      case rel => exact ⟨j + 1, (n2, l2, m1 + 1), by omega, by simp only; omega, by go_num, by go_num, ⟨Hstep.out, HV2.out, A5, c5, B5, d5, by simp only; rw [HG2.out]; exact set3 kd6 _ _ _, by simp only; rw [HG2.out]; exact (hV6.set3 hD4 _ _ _).mono hsz4⟩, below_set3 hb06 (by omega) _ _ _, ((k16.grown (grownBy_setCell _ D 0 _) hneD).grown (grownBy_setCell _ D 1 _) hneD).grown (grownBy_setCell _ D 2 _) hneD⟩
      case measure => simp [intOf]; omega
/-- Run at any state and list -/
theorem r19Run_any (A B : Option Addr) (N : Int) (l : List (Int × Int)) (lab : List Int) (c d : Nat) (C : Option Addr) (cs : List (Int × Int × Int)) (cc : Nat) (w : World) (hr : RP w A l) (hA : A = none → l = [] ∧ c = 0) (hl : l.length ≤ 100000) (hi : RI w B lab) (hB : B = none → lab = [] ∧ d = 0) (hlb : lab.length ≤ 100000) (hC : RC w C cs) :
    Calls Tryz.prog 18 #[.agg #[.int .i64 N, .slice A l.length c, .slice B lab.length d], .slice C cs.length cc] w (RetRn ((rnR N l lab cs).1 : Nat) (rnR N l lab cs).2.1 (lst (rnR N l lab cs).1 (grL (rnR N l lab cs).1 (rnR N l lab cs).2.1)) ((rnR N l lab cs).2.2.1 : Nat) (rnR N l lab cs).2.2.2 w) := by
  have hval := fun W (hb : Below w.heap.size w W) => r19Valid_any A B N l lab c d W (hr.below hb) hl (hi.below hb) hlb
  cases hd : dvB N l lab
  · unfold rnR
    rw [if_neg (by rw [hd]; simp)]
    rw [hd] at hval
    exact r19Run_bad A B N l lab c d C cs.length cc w false hval 7 (.inl ⟨rfl, rfl⟩)
  · by_cases hcs : cs.length ≤ 200
    · obtain ⟨n, rfl, hv, rfl⟩ := dvB_vld hd hl
      unfold rnR
      rw [if_pos hd, if_pos hcs, Int.toNat_natCast]
      exact r19run_good hv A c B d C cs cc w 0 ⟨hr, hA, hi, hB, fun _ _ _ => Nat.zero_le _, fun _ _ _ => Nat.zero_le _⟩ hC hcs
    · unfold rnR
      rw [if_pos hd, if_neg hcs]
      rw [hd] at hval
      exact r19Run_bad A B N l lab c d C cs.length cc w true hval 2 (.inr ⟨rfl, rfl, by omega⟩)
theorem dRun_any (A B : Option Addr) (N : Int) (l : List (Int × Int)) (lab : List Int) (c d : Nat) (C : Option Addr) (cs : List (Int × Int × Int)) (cc : Nat) (w : World) (hr : RP w A l) (hA : A = none → l = [] ∧ c = 0) (hl : l.length ≤ 100000) (hi : RI w B lab) (hB : B = none → lab = [] ∧ d = 0) (hlb : lab.length ≤ 100000) (hC : RC w C cs) (hT : Tab w) :
    Calls Tryz.prog 17 #[.agg #[.int .i64 N, .slice A l.length c, .slice B lab.length d], .slice C cs.length cc] w (RetRn ((rnR N l lab cs).1 : Nat) (rnR N l lab cs).2.1 (lst (rnR N l lab cs).1 (grL (rnR N l lab cs).1 (rnR N l lab cs).2.1)) ((rnR N l lab cs).2.2.1 : Nat) (rnR N l lab cs).2.2.2 w) := by
  have hval := fun W (hb : Below w.heap.size w W) => dvalid_any A B N l lab c d W (hr.below hb) hl (hi.below hb) hlb (hT.below hb)
  cases hd : dvB N l lab
  · unfold rnR
    rw [if_neg (by rw [hd]; simp)]
    rw [hd] at hval
    exact dRun_bad A B N l lab c d C cs.length cc w false hval 7 (.inl ⟨rfl, rfl⟩)
  · by_cases hcs : cs.length ≤ 200
    · obtain ⟨n, rfl, hv, rfl⟩ := dvB_vld hd hl
      unfold rnR
      rw [if_pos hd, if_pos hcs, Int.toNat_natCast]
      exact run_good hv A c B d C cs cc w 0 ⟨hr, hA, hi, hB, fun _ _ _ => Nat.zero_le _, fun _ _ _ => Nat.zero_le _⟩ hT hC hcs
    · unfold rnR
      rw [if_pos hd, if_neg hcs]
      rw [hd] at hval
      exact dRun_bad A B N l lab c d C cs.length cc w true hval 2 (.inr ⟨rfl, rfl, by omega⟩)
theorem chg_vld {n : Nat} {l : List (Int × Int)} (hv : Vld n l) (cs : List (Int × Int × Int)) : Vld (chgR n l cs).1 (chgR n l cs).2.1 := by
  have key : ∀ k, k ≤ cs.length → Vld (chgR n l (cs.take k)).1 (chgR n l (cs.take k)).2.1 := fun k => by
    induction k with
    | zero => intro _; rw [List.take_zero]; exact hv
    | succ k ih =>
      intro hk
      have hk' : k < cs.length := by omega
      have hi := ih (by omega)
      rw [List.take_succ_eq_append_getElem hk', chgR_snoc]
      unfold chgS
      split
      · rename_i he
        exact ch_vld hi.1.1 he
      · exact hi
  have := key cs.length (Nat.le_refl _)
  rwa [List.take_length] at this
theorem rnR_len {N : Int} {l : List (Int × Int)} {lab : List Int} {cs : List (Int × Int × Int)} (hl : l.length ≤ 100000) : (rnR N l lab cs).1 ≤ 40 ∧ (rnR N l lab cs).2.1.length ≤ 100000 := by
  unfold rnR
  cases h : dvB N l lab
  · simp
  · obtain ⟨n, rfl, hv, _⟩ := dvB_vld h hl
    simp only [if_true, Int.toNat_natCast]
    split
    · have := chg_vld hv cs
      exact ⟨this.1.1, this.1.2.1⟩
    · simp
end Go.Proofs.YtkflanjlnbdkmaaGreatDoor
