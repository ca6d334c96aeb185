/- The walk of the statement DynamicAnew (printed by gen_anw.py). -/
import Derived.Test.YtkflanjlnbdkmaaDoorDyX6
import Derived.Test.YtkflanjlnbdkmaaDoorCmc
namespace Go.Proofs.YtkflanjlnbdkmaaDoor
open Go.ChangeShapes Go.WideShapes Go.ChangeAt Go.RowKit

/-- the box that was laid, if it was -/
def BxO (o : Option Nat) (m : Nat) (w : World) : Prop := ∀ q, o = some q → m ≤ q ∧ Blk w q 52 #[.int .i64 0, .slice none 0 0, .slice none 0 0]
theorem BxO.no {m : Nat} {w : World} : BxO Option.none m w := fun q e => by cases e
theorem BxO.new {m : Nat} {w : World} (h : m ≤ w.heap.size) : BxO (some w.heap.size) m (w.alloc (.cells #[.int .i64 0, .slice none 0 0, .slice none 0 0] 52)) := fun q e => by
  injection e with e; subst e; exact ⟨h, Blk.new _ _ _⟩
theorem BxO.grown {o : Option Nat} {m p : Nat} {w w' : World} (h : BxO o m w) (hg : w.grownBy w' (some p)) (hp : p < m) : BxO o m w' := fun q e =>
  ⟨(h q e).1, (h q e).2.grown hg (fun e' => by injection e' with e'; have := (h q e).1; omega)⟩
def avV (N : Int) (A : Option Addr) (k c : Nat) (B : Option Addr) (m d : Nat) (F : Option Addr) (r f : Nat) (E : Int) : Value := .tuple #[.agg #[.int .i64 N, .slice A k c, .slice B m d], .slice F r f, .int .i64 E]
/-- the state that Apply has returned lies apart from the box -/
def AvJ (m : Nat) (l : List (Int × Int)) (G af : List Int) (A : Option Addr) (c : Nat) (B : Option Addr) (d : Nat) (F : Option Addr) (o : Option Nat) (w : World) : Prop := DyV w m l G A c B d ∧ RI w F af ∧
  ∀ q, o = some q → (∀ b x, A = some ⟨b, x, none⟩ → 0 < l.length → b ≠ q) ∧ (∀ b x, B = some ⟨b, x, none⟩ → G ≠ [] → b ≠ q) ∧ ∀ b x, F = some ⟨b, x, none⟩ → af ≠ [] → b ≠ q
theorem RI.lt_ {w : World} {A : Option Addr} {l : List Int} (h : RI w A l) {b o : Nat} (hA : A = some ⟨b, o, none⟩) (hl : l ≠ []) : b < w.heap.size := by
  obtain ⟨b', o', e, hc⟩ := h.at_ (k := 0) (List.length_pos_iff.2 hl)
  rw [hA] at e; injection e with e; injection e with e _ _; subst e
  exact lt_of_cell hc
theorem AvJ.alloc {m : Nat} {l : List (Int × Int)} {G af : List Int} {A : Option Addr} {c : Nat} {B : Option Addr} {d : Nat} {F : Option Addr} {w : World} (h : AvJ m l G af A c B d F none w) (o : Obj) : AvJ m l G af A c B d F (some w.heap.size) (w.alloc o) :=
  ⟨h.1.below (newB _ _), h.2.1.below (newB _ _), fun q hq => by
    injection hq with hq
    subst hq
    exact ⟨fun b x e hl => by have := h.1.rp.lt e hl; omega, fun b x e hl => by have := h.1.ri.lt_ e hl; omega, fun b x e hl => by have := h.2.1.lt_ e hl; omega⟩⟩
theorem DyV.mono {w : World} {m m' : Nat} {l : List (Int × Int)} {G : List Int} {A : Option Addr} {c : Nat} {B : Option Addr} {d : Nat} (h : DyV w m l G A c B d) (hm : m' ≤ m) : DyV w m' l G A c B d :=
  ⟨h.rp, h.an, h.ri, h.bn, fun b o e => Nat.le_trans hm (h.ua b o e), fun b o e => Nat.le_trans hm (h.ub b o e)⟩
/-- what stands behind the region: the new state's box -/
structure JFin (wr : World) (p q : Nat) (k f t : Int) (n : Nat) (l : List (Int × Int)) (A1 : Option Addr) (c1 : Nat) (B1 : Option Addr) (d1 : Nat) (F1 : Option Addr) (f1 : Nat) (w : World) : Prop where
  q0 : wr.heap.size ≤ q
  blk : Blk w q 52 #[.int .i64 (apN n l k f t : Nat), .slice A1 (apL n l k f t).length c1, .slice B1 (apG n l k f t).length d1]
  dy : DyV w wr.heap.size (apL n l k f t) (apG n l k f t) A1 c1 B1 d1
  af : RI w F1 (apF n l k f t)
  src : SrcOk w p
  grown : wr.grownBy w (some p)
theorem JFin.of_store {wr w : World} {p q : Nat} {k f t : Int} {n : Nat} {l : List (Int × Int)} {A1 : Option Addr} {c1 : Nat} {B1 : Option Addr} {d1 : Nat} {F1 : Option Addr} {f1 : Nat} (hs : SrcOk w p) (hg : wr.grownBy w (some p)) (hpw : p < wr.heap.size) (hq : wr.heap.size ≤ q) (hk : Blk w q 52 #[.int .i64 0, .slice none 0 0, .slice none 0 0])
    (h : AvJ wr.heap.size (apL n l k f t) (apG n l k f t) (apF n l k f t) A1 c1 B1 d1 F1 (some q) w) : JFin wr p q k f t n l A1 c1 B1 d1 F1 f1 (((w.setCell ⟨q, 0, none⟩ (.int .i64 (apN n l k f t : Nat))).setCell ⟨q, 1, none⟩ (.slice A1 (apL n l k f t).length c1)).setCell ⟨q, 2, none⟩ (.slice B1 (apG n l k f t).length d1)) := by
  obtain ⟨hv, hf, ha⟩ := h
  obtain ⟨h1, h2, h3⟩ := ha q rfl
  have e := fun (X : World) (i : Nat) (u : Value) (h : SrcOk X p) => h.other (grownBy_setCell X q i u) (fun k hk => by injection hk with hk; omega)
  refine ⟨hq, set3 hk _ _ _, ⟨((hv.rp.set_far h1 0 _).set_far h1 1 _).set_far h1 2 _, hv.an, ((hv.ri.grown (grownBy_setCell _ q 0 _) h2).grown (grownBy_setCell _ q 1 _) h2).grown (grownBy_setCell _ q 2 _) h2, hv.bn, hv.ua, hv.ub⟩,
    ((hf.grown (grownBy_setCell _ q 0 _) h3).grown (grownBy_setCell _ q 1 _) h3).grown (grownBy_setCell _ q 2 _) h3, e _ _ _ (e _ _ _ (e _ _ _ hs)), ?_⟩
  exact ⟨hg.os, hg.tape, hg.output, by simpa using hg.size, fun j hj hne => ((Below.heap_setCell _ _ _ j (by simp; omega)).trans ((Below.heap_setCell _ _ _ j (by simp; omega)).trans (Below.heap_setCell w _ _ j (by simp; omega)))).trans (hg.block j hj hne)⟩
theorem anew_eq {n : Nat} {l : List (Int × Int)} (hv : Vld n l) {k f t : Int} (h : chkE n l k f t = 0) {i : Nat} (hi : i < chN n k) (ha : inB (affL (chN n k) (chL n l k f t) (rtL n l k t)) i = false) :
    (lst (chN n k) (grL (chN n k) (chL n l k f t))).getD i 0 = (lst n (grL n l)).getD i 0 := by
  have hb : affB (chN n k) (chL n l k f t) (rtL n l k t) i = false := by
    cases hh : affB (chN n k) (chL n l k f t) (rtL n l k t) i
    · rfl
    · rw [show inB (affL (chN n k) (chL n l k f t) (rtL n l k t)) i = true from (inB_iff _ _).2 (mem_nodesB.2 ⟨i, hi, hh, rfl⟩)] at ha; cases ha
  obtain ⟨h1, h2⟩ := aff_same hv.1 h hi hb
  rw [lst_getD hi, lst_getD h1, h2]
/-- a state apart from a box that is stored into -/
theorem DyV.set3 {w : World} {m D : Nat} {l : List (Int × Int)} {G : List Int} {A : Option Addr} {c : Nat} {B : Option Addr} {d : Nat} (h : DyV w m l G A c B d) (hD : D < m) (x y z : Value) : DyV (((w.setCell ⟨D, 0, none⟩ x).setCell ⟨D, 1, none⟩ y).setCell ⟨D, 2, none⟩ z) m l G A c B d := by
  have h1 : ∀ b o, A = some ⟨b, o, none⟩ → 0 < l.length → b ≠ D := fun b o e _ => by have := h.ua b o e; omega
  have h2 : ∀ b o, B = some ⟨b, o, none⟩ → G ≠ [] → b ≠ D := fun b o e _ => by have := h.ub b o e; omega
  exact ⟨((h.rp.set_far h1 0 _).set_far h1 1 _).set_far h1 2 _, h.an, ((h.ri.grown (grownBy_setCell _ D 0 _) h2).grown (grownBy_setCell _ D 1 _) h2).grown (grownBy_setCell _ D 2 _) h2, h.bn, h.ua, h.ub⟩
theorem src_set3 {w : World} {p D : Nat} (h : SrcOk w p) (hp : p < D) (x y z : Value) : SrcOk (((w.setCell ⟨D, 0, none⟩ x).setCell ⟨D, 1, none⟩ y).setCell ⟨D, 2, none⟩ z) p := by
  have e := fun (X : World) (i : Nat) (u : Value) (h : SrcOk X p) => h.other (grownBy_setCell X D i u) (fun k hk => by injection hk with hk; omega)
  exact e _ _ _ (e _ _ _ (e _ _ _ h))
set_option maxRecDepth 100000 in
set_option maxHeartbeats 8000000 in
theorem anew_law_any (A0 : Option Addr) (arg : List Int) (c0 : Nat) (w : World)
    (hlc : arg.length ≤ c0) (hc : c0 ≤ 9223372036854775807) (hr : RI w A0 arg) (hx : ∀ x ∈ arg, -9223372036854775808 ≤ x ∧ x ≤ 9223372036854775807) (hT : Tab w) :
    Calls Tryd.prog 8 #[.slice A0 arg.length c0] w (RetB (.bool true) w) := by
  have htab : 0 < w.heap.size := lt_of_cell (hT 0 (by omega))
  go_enter Tryd.func8, Tryd.ntmps8
  go_wp2_with fail
  refine (new_any A0 arg c0 w hlc hc hr hx).mono ?_
  rintro e w1 ⟨p, rfl, hp, hs1, hb1⟩
  have hp1 := hs1.lt
  have HT0 := Lib.hid hT
  clear hr hx
  go_wp2_with fail
  refine (graph2_any p 8 w1 hs1 (by omega)).mono ?_
  rintro e w2 ⟨n0, l0, AL, cl, rfl, hN, hv, hrp, hloc, hs2, hg2, hAn⟩
  have hb2 : Below w.heap.size w w2 := hb1.trans (below_of_grownBy hg2 hp hb1.size)
  have hT2 := hT.below hb2
  have hp2 := hs2.lt
  have Hnew := Lib.hid (new_v hv AL cl w2 hrp hAn hT2)
  obtain ⟨G0, hG0⟩ : ∃ G0, lst n0 (grL n0 l0) = G0 := ⟨_, rfl⟩
  rw [hG0] at Hnew
  have HG0 := Lib.hid hG0; have HV := Lib.hid hv
  clear hs1 hb1 hg2 hT hv hrp hloc hAn hG0
  go_wp2_with fail
  refine Hnew.out.mono ?_
  rintro e w3 ⟨A3, c3, B3, d3, rfl, hop3, hoi3, hb3⟩
  have hV3 := DyV.of_own hop3 hoi3
  have hs3 := hs2.kept hb3
  have hT3 := hT2.below hb3
  have hbb3 := endB hb2 hb3
  have hsz3 := hb3.size
  clear Hnew hop3 hoi3 hs2 hT2 hb2 hb3
  go_upto_region 3 with fail
  obtain ⟨W4, hW4, k4, hb4, hlt4⟩ := boxed3 w3 52 (.int .i64 (n0 : Int)) (.slice A3 l0.length c3) (.slice B3 G0.length d3)
  rw [hW4]
  have hV4 := hV3.below hb4
  have hs4 := hs3.kept hb4
  have hT4 := hT3.below hb4
  have hbb4 := endB hbb3 hb4
  have hsz4 := hb4.size
  clear hW4 hV3 hs3 hT3 hbb3 hb4
  obtain ⟨m0, hm0⟩ : ∃ m, w2.heap.size = m := ⟨_, rfl⟩
  rw [hm0] at hV4 hsz3 hp2
  have hpm := hp2
  obtain ⟨D, hD⟩ : ∃ D, w3.heap.size = D := ⟨_, rfl⟩
  rw [hD] at k4 hsz3 hsz4 hlt4 ⊢
  have HV4 := Lib.hid hV4; have Hs4 := Lib.hid hs4; have HT4 := Lib.hid hT4; have Hbb4 := Lib.hid hbb4; have Hk4 := Lib.hid k4
  clear hV4 hs4 hT4 hbb4 k4 hm0 hD
  go_wp2_with fail
  go_loopw [6] (fun kk wr => ∃ (j : Nat) (n : Nat) (l : List (Int × Int)) (A : Option Addr) (c : Nat) (B : Option Addr) (d : Nat), j ≤ 20 ∧ kk = .int .i64 j ∧ Vld n l ∧ Blk wr D 52 #[.int .i64 (n : Int), .slice A l.length c, .slice B (lst n (grL n l)).length d] ∧ DyV wr m0 l (lst n (grL n l)) A c B d ∧ SrcOk wr p ∧ Tab wr ∧ Below w.heap.size w wr ∧ D < wr.heap.size) (fun kk _ => 20 - (intOf kk).toNat)
  case atStart => exact ⟨0, n0, l0, A3, c3, B3, d3, by omega, rfl, HV.out, by rw [HG0.out]; exact Hk4.out, by rw [HG0.out]; exact HV4.out, Hs4.out, HT4.out, Hbb4.out, hlt4⟩
  case round =>
    clear HV4 Hs4 HT4 Hbb4 Hk4 HV HG0
    obtain ⟨j, n, l, A, c, B, d, hj, rfl, hv, k0, hV, hs, hT, hbw, hDlt⟩ := hrel
    have hn40 := hv.1.1
    have hpw : p < wr.heap.size := hs.lt
    have Happ := Lib.hid (fun (k f t : Int) (A : Option Addr) (c : Nat) (B : Option Addr) (d : Nat) (W : World) (m : Nat) (h : DyV W m l (lst n (grL n l)) A c B d) (hT : Tab W) => dApply_good A B n l c d k f t W h.rp h.an h.ri h.bn hv hT)
    obtain ⟨G, hG⟩ : ∃ G, lst n (grL n l) = G := ⟨_, rfl⟩
    rw [hG] at k0 hV Happ
    have HG := Lib.hid hG; have HV := Lib.hid hv
    clear hG hv
    by_cases hlt : j < 20
    case neg =>
      have hlt' : ¬ (j : Int) < 20 := by omega
      go_wp2_with fail
      refine (awake19_any wr hT).mono ?_
      rintro e w9 ⟨rfl, hb9⟩
      clear k0
      go_wp2_with fail
      go_ret
      exact ⟨rfl, endB hbw hb9⟩
    case pos =>
    have hlt' : (j : Int) < 20 := by omega
    go_wp2_with fail
    refine (more_any p wr hs).mono ?_
    rintro e w5 ⟨b, rfl, nq, rfl⟩
    have hbq : Below wr.heap.size wr (wr.drewN nq) := below_drewN (Below.refl _ _) nq
    have k05 := k0.below hbq hDlt
    have hV5 := hV.below hbq
    have hs5 := hs.kept hbq
    have hT5 := hT.below hbq
    have hbw5 := hbw.trans (hbq.mono hbw.size)
    have hD5 : D < (wr.drewN nq).heap.size := hDlt
    have hp5 : p < (wr.drewN nq).heap.size := hpw
    clear k0 hV hs hT hbw hDlt hpw hbq
    generalize wr.drewN nq = wq at *
    cases b
    · go_wp2_with fail
      refine (awake19_any wq hT5).mono ?_
      rintro e w9 ⟨rfl, hb9⟩
      clear k05
      go_wp2_with fail
      go_ret
      exact ⟨rfl, endB hbw5 hb9⟩
    go_upto_region 8 with fail
    obtain ⟨wr, hwr⟩ : ∃ wr, wr = wq := ⟨_, rfl⟩
    subst hwr
    have hV := hV5; have hs := hs5; have hT := hT5; have k0 := k05; have hpw := hp5; have hDw := hD5
    clear hV5 hs5 hT5 k05 hp5 hD5
    go_cut [7, 8, 9] (fun s7 s8 s9 wx => ∃ q k f t A1 c1 B1 d1 F1 f1, s7 = Value.pointer (some ⟨q, 0, none⟩) ∧ s8 = Value.slice F1 (apF n l k f t).length f1 ∧ s9 = Value.int .i64 (chkE n l k f t) ∧ JFin wr p q k f t n l A1 c1 B1 d1 F1 f1 wx)
    case first =>
      refine wp_region_tree [5, 6, 11, 12] (fun w' => SrcOk w' p ∧ wr.grownBy w' (some p)) (fun w' => BxO none wr.heap.size w') 15 [0, 1, 2, 3, 4, 5, 6, 7, 8, 9, 10, 11, 12, 13, 14] (by rfl) (by decide) (by kernel_rfl) (by kernel_rfl) ⟨hs.kept (Below.refl _ _).drew, grownBy_of_below (Below.refl _ _).drew _⟩ BxO.no ?_
      refine TxtT.pure 0 (by rfl) (by rw [List.getElem?_toArray]; rfl) (by rfl) (by kernel_rfl) (by rfl) ?_; apply Exists.intro; refine ⟨fun w1 hS1 => ?_, ?_⟩; (focus ((obtain ⟨g0, g1, g2, _, _, _⟩ := (k0.grown hS1.2 (fun e => by injection e with e; omega)).threeF); go_simp; with_reducible rfl))
      rw [show List.erase [0, 1, 2, 3, 4, 5, 6, 7, 8, 9, 10, 11, 12, 13, 14] 0 = [1, 2, 3, 4, 5, 6, 7, 8, 9, 10, 11, 12, 13, 14] from rfl]; simp only [Act.put, List.setIfInBounds_toArray, List.set_cons_zero, List.set_cons_succ]
      refine TxtT.pure 1 (by rfl) (by rw [List.getElem?_toArray]; rfl) (by rfl) (by kernel_rfl) (by rfl) ?_; apply Exists.intro; refine ⟨fun w1 hS1 => ?_, ?_⟩; (focus (skip; go_simp; with_reducible rfl))
      rw [show List.erase [1, 2, 3, 4, 5, 6, 7, 8, 9, 10, 11, 12, 13, 14] 1 = [2, 3, 4, 5, 6, 7, 8, 9, 10, 11, 12, 13, 14] from rfl]; simp only [Act.put, List.setIfInBounds_toArray, List.set_cons_zero, List.set_cons_succ]
      refine TxtT.pure 2 (by rfl) (by rw [List.getElem?_toArray]; rfl) (by rfl) (by kernel_rfl) (by rfl) ?_; apply Exists.intro; refine ⟨fun w1 hS1 => ?_, ?_⟩; (focus (skip; go_simp; with_reducible rfl))
      rw [show List.erase [2, 3, 4, 5, 6, 7, 8, 9, 10, 11, 12, 13, 14] 2 = [3, 4, 5, 6, 7, 8, 9, 10, 11, 12, 13, 14] from rfl]; simp only [Act.put, List.setIfInBounds_toArray, List.set_cons_zero, List.set_cons_succ]
      refine TxtT.pure 3 (by rfl) (by rw [List.getElem?_toArray]; rfl) (by rfl) (by kernel_rfl) (by rfl) ?_; apply Exists.intro; refine ⟨fun w1 hS1 => ?_, ?_⟩; (focus (skip; go_simp; with_reducible rfl))
      rw [show List.erase [3, 4, 5, 6, 7, 8, 9, 10, 11, 12, 13, 14] 3 = [4, 5, 6, 7, 8, 9, 10, 11, 12, 13, 14] from rfl]; simp only [Act.put, List.setIfInBounds_toArray, List.set_cons_zero, List.set_cons_succ]
      refine TxtT.pure 4 (by rfl) (by rw [List.getElem?_toArray]; rfl) (by rfl) (by kernel_rfl) (by rfl) ?_; apply Exists.intro; refine ⟨fun w1 hS1 => ?_, ?_⟩; (focus ((obtain ⟨g0, g1, g2, _, _, _⟩ := (k0.grown hS1.2 (fun e => by injection e with e; omega)).threeF); go_simp; with_reducible rfl))
      rw [show List.erase [4, 5, 6, 7, 8, 9, 10, 11, 12, 13, 14] 4 = [5, 6, 7, 8, 9, 10, 11, 12, 13, 14] from rfl]; simp only [Act.put, List.setIfInBounds_toArray, List.set_cons_zero, List.set_cons_succ]
      refine TxtT.two 5 11 (by kernel_rfl) (by rw [List.getElem?_toArray]; rfl) (by rw [List.getElem?_toArray]; rfl) (by rfl) (by rfl) (by rfl) (by rfl) (fun v => ∃ k f t : Int, v = Value.agg #[.int .i64 k, .int .i64 f, .int .i64 t]) (fun _ w' => BxO none wr.heap.size w') (fun v => ∃ q, v = Value.pointer (some ⟨q, 0, none⟩)) (fun v w' => ∃ q, v = Value.pointer (some ⟨q, 0, none⟩) ∧ BxO (some q) wr.heap.size w') (fun w1 hS1 hJ1 => ?_) (fun w1 hS1 hJ1 => ?_) ?_ ?_
      · refine Eff.call (f := 42) (args := #[.pointer (some ⟨p, 0, none⟩), .int .i64 (n : Int)]) (by go_simp) ((change_any p n w1 hS1.1 (by omega) (by omega)).mono ?_)
        rintro e w' ⟨k, f, t, rfl, hs, hg⟩
        exact ⟨_, rfl, ⟨hs, grownBy_trans hS1.2 hg⟩, ⟨k, f, t, rfl⟩, BxO.grown hJ1 hg (by have := hS1.2.size; omega)⟩
      · refine Eff.value (w' := w1.alloc (.cells #[.int .i64 0, .slice none 0 0, .slice none 0 0] 52)) (v := .pointer (some ⟨w1.heap.size, 0, none⟩)) (by go_simp) ⟨⟨hS1.1.kept (newB _ _), grownBy_trans hS1.2 (grownBy_of_below (newB _ _) _)⟩, ⟨_, rfl⟩, _, rfl, BxO.new hS1.2.size⟩
      ·
        rintro _ ⟨k, f, t, rfl⟩
        rw [show List.erase [5, 6, 7, 8, 9, 10, 11, 12, 13, 14] 5 = [6, 7, 8, 9, 10, 11, 12, 13, 14] from rfl]; simp only [Act.put, List.setIfInBounds_toArray, List.set_cons_zero, List.set_cons_succ]
        refine TxtT.two 6 11 (by kernel_rfl) (by rw [List.getElem?_toArray]; rfl) (by rw [List.getElem?_toArray]; rfl) (by rfl) (by rfl) (by rfl) (by rfl) (fun v => ∃ A1 c1 B1 d1 F1 f1, v = avV (apN n l k f t : Nat) A1 (apL n l k f t).length c1 B1 (apG n l k f t).length d1 F1 (apF n l k f t).length f1 (chkE n l k f t)) (fun v w' => BxO none wr.heap.size w' ∧ ∀ A1 c1 B1 d1 F1 f1, v = avV (apN n l k f t : Nat) A1 (apL n l k f t).length c1 B1 (apG n l k f t).length d1 F1 (apF n l k f t).length f1 (chkE n l k f t) → AvJ wr.heap.size (apL n l k f t) (apG n l k f t) (apF n l k f t) A1 c1 B1 d1 F1 none w') (fun v => ∃ q, v = Value.pointer (some ⟨q, 0, none⟩)) (fun v w' => ∃ q, v = Value.pointer (some ⟨q, 0, none⟩) ∧ BxO (some q) wr.heap.size w') (fun w1 hS1 hJ1 => ?_) (fun w1 hS1 hJ1 => ?_) ?_ ?_
        · refine Eff.call (f := 41) (args := #[.agg #[.int .i64 (n : Int), .slice A l.length c, .slice B G.length d], .agg #[.int .i64 k, .int .i64 f, .int .i64 t]]) (by go_simp) ((Happ.out k f t A c B d w1 m0 (hV.grown hS1.2 hpm) (hT.grown hS1.2 (by omega))).mono ?_)
          rintro e w' ⟨A1, c1, B1, d1, F1, f1, rfl, ⟨hr1, hn1, hu1⟩, ⟨hi1, hm1, hu2⟩, ⟨hf1, hu3⟩, hb⟩
          refine ⟨_, rfl, ⟨hS1.1.kept hb, grownBy_trans hS1.2 (grownBy_of_below hb _)⟩, ⟨A1, c1, B1, d1, F1, f1, rfl⟩, BxO.grown hJ1 (grownBy_of_below hb (some p)) (by have := hS1.2.size; omega), fun A2 c2 B2 d2 F2 f2 e => ?_⟩
          simp only [avV, Value.tuple.injEq, Value.agg.injEq, Array.mk.injEq, List.cons.injEq, Value.slice.injEq, true_and, and_true] at e
          obtain ⟨⟨⟨rfl, rfl⟩, rfl, rfl⟩, rfl, rfl⟩ := e
          exact ⟨DyV.mono ⟨hr1, hn1, hi1, hm1, hu1, hu2⟩ hS1.2.size, hf1, fun q hq => ⟨fun b x e _ => by have := hu1 b x e; have := (hJ1 q hq).2.lt; omega, fun b x e _ => by have := hu2 b x e; have := (hJ1 q hq).2.lt; omega, fun b x e _ => by have := hu3 b x e; have := (hJ1 q hq).2.lt; omega⟩⟩
        · refine Eff.value (w' := w1.alloc (.cells #[.int .i64 0, .slice none 0 0, .slice none 0 0] 52)) (v := .pointer (some ⟨w1.heap.size, 0, none⟩)) (by go_simp) ⟨⟨hS1.1.kept (newB _ _), grownBy_trans hS1.2 (grownBy_of_below (newB _ _) _)⟩, ⟨_, rfl⟩, _, rfl, BxO.new hS1.2.size⟩
        ·
          rintro _ ⟨A1, c1, B1, d1, F1, f1, rfl⟩
          unfold avV
          rw [show List.erase [6, 7, 8, 9, 10, 11, 12, 13, 14] 6 = [7, 8, 9, 10, 11, 12, 13, 14] from rfl]; simp only [Act.put, List.setIfInBounds_toArray, List.set_cons_zero, List.set_cons_succ]
          refine TxtT.pure 7 (by rfl) (by rw [List.getElem?_toArray]; rfl) (by rfl) (by kernel_rfl) (by rfl) ?_; apply Exists.intro; refine ⟨fun w1 hS1 => ?_, ?_⟩; (focus (skip; go_simp; with_reducible rfl))
          rw [show List.erase [7, 8, 9, 10, 11, 12, 13, 14] 7 = [8, 9, 10, 11, 12, 13, 14] from rfl]; simp only [Act.put, List.setIfInBounds_toArray, List.set_cons_zero, List.set_cons_succ]
          refine TxtT.pure 8 (by rfl) (by rw [List.getElem?_toArray]; rfl) (by rfl) (by kernel_rfl) (by rfl) ?_; apply Exists.intro; refine ⟨fun w1 hS1 => ?_, ?_⟩; (focus (skip; go_simp; with_reducible rfl))
          rw [show List.erase [8, 9, 10, 11, 12, 13, 14] 8 = [9, 10, 11, 12, 13, 14] from rfl]; simp only [Act.put, List.setIfInBounds_toArray, List.set_cons_zero, List.set_cons_succ]
          refine TxtT.pure 9 (by rfl) (by rw [List.getElem?_toArray]; rfl) (by rfl) (by kernel_rfl) (by rfl) ?_; apply Exists.intro; refine ⟨fun w1 hS1 => ?_, ?_⟩; (focus (skip; go_simp; with_reducible rfl))
          rw [show List.erase [9, 10, 11, 12, 13, 14] 9 = [10, 11, 12, 13, 14] from rfl]; simp only [Act.put, List.setIfInBounds_toArray, List.set_cons_zero, List.set_cons_succ]
          refine TxtT.pure 10 (by rfl) (by rw [List.getElem?_toArray]; rfl) (by rfl) (by kernel_rfl) (by rfl) ?_; apply Exists.intro; refine ⟨fun w1 hS1 => ?_, ?_⟩; (focus (skip; go_simp; with_reducible rfl))
          rw [show List.erase [10, 11, 12, 13, 14] 10 = [11, 12, 13, 14] from rfl]; simp only [Act.put, List.setIfInBounds_toArray, List.set_cons_zero, List.set_cons_succ]
          refine TxtT.one 11 (by kernel_rfl) (by rw [List.getElem?_toArray]; rfl) (by rfl) (by rfl) (fun v => ∃ q, v = Value.pointer (some ⟨q, 0, none⟩)) (fun v w' => ∃ q, v = Value.pointer (some ⟨q, 0, none⟩) ∧ (fun w' => BxO (some q) wr.heap.size w' ∧ ∀ A2 c2 B2 d2 F2 f2, avV (apN n l k f t : Nat) A1 (apL n l k f t).length c1 B1 (apG n l k f t).length d1 F1 (apF n l k f t).length f1 (chkE n l k f t) = avV (apN n l k f t : Nat) A2 (apL n l k f t).length c2 B2 (apG n l k f t).length d2 F2 (apF n l k f t).length f2 (chkE n l k f t) → AvJ wr.heap.size (apL n l k f t) (apG n l k f t) (apF n l k f t) A2 c2 B2 d2 F2 (some q) w') w') (fun w1 hS1 hJ1 => ?_) ?_
          · refine Eff.value (w' := w1.alloc (.cells #[.int .i64 0, .slice none 0 0, .slice none 0 0] 52)) (v := .pointer (some ⟨w1.heap.size, 0, none⟩)) (by go_simp) ⟨⟨hS1.1.kept (newB _ _), grownBy_trans hS1.2 (grownBy_of_below (newB _ _) _)⟩, ⟨_, rfl⟩, _, rfl, BxO.new hS1.2.size, fun A2 c2 B2 d2 F2 f2 e => (hJ1.2 A2 c2 B2 d2 F2 f2 e).alloc _⟩
          rintro _ ⟨q, rfl⟩
          rw [show List.erase [11, 12, 13, 14] 11 = [12, 13, 14] from rfl]; simp only [Act.put, List.setIfInBounds_toArray, List.set_cons_zero, List.set_cons_succ]
          refine TxtT.weakJ (J2 := (fun w' => BxO (some q) wr.heap.size w' ∧ ∀ A2 c2 B2 d2 F2 f2, avV (apN n l k f t : Nat) A1 (apL n l k f t).length c1 B1 (apG n l k f t).length d1 F1 (apF n l k f t).length f1 (chkE n l k f t) = avV (apN n l k f t : Nat) A2 (apL n l k f t).length c2 B2 (apG n l k f t).length d2 F2 (apF n l k f t).length f2 (chkE n l k f t) → AvJ wr.heap.size (apL n l k f t) (apG n l k f t) (apF n l k f t) A2 c2 B2 d2 F2 (some q) w')) (fun w1 h => by obtain ⟨q', hq, h⟩ := h; injection hq with hq; injection hq with hq; injection hq with hq _ _; subst hq; exact h) ?_
          refine TxtT.one 12 (by kernel_rfl) (by rw [List.getElem?_toArray]; rfl) (by rfl) (by rfl) (fun v => v = undef) (fun _ w' => JFin wr p q k f t n l A1 c1 B1 d1 F1 f1 w') (fun w1 hS1 hJ1 => ?_) ?_
          · obtain ⟨hq, hk⟩ := hJ1.1 q rfl
            obtain ⟨g0, g1, g2, z0, z1, z2⟩ := hk.threeF
            have hst := JFin.of_store (k := k) (f := f) (t := t) (n := n) (l := l) (f1 := f1) hS1.1 hS1.2 hpw hq hk (hJ1.2 _ _ _ _ _ _ rfl)
            exact Eff.skip (w' := ((w1.setCell ⟨q, 0, none⟩ (.int .i64 (apN n l k f t : Nat))).setCell ⟨q, 1, none⟩ (.slice A1 (apL n l k f t).length c1)).setCell ⟨q, 2, none⟩ (.slice B1 (apG n l k f t).length d1)) (by go_simp) ⟨⟨hst.src, hst.grown⟩, rfl, hst⟩
          rintro _ rfl
          rw [show List.erase [12, 13, 14] 12 = [13, 14] from rfl]; simp only [Act.put]
          refine TxtT.pure 13 (by rfl) (by rw [List.getElem?_toArray]; rfl) (by rfl) (by kernel_rfl) (by rfl) ?_; apply Exists.intro; refine ⟨fun w1 hS1 => ?_, ?_⟩; (focus (skip; go_simp; with_reducible rfl))
          rw [show List.erase [13, 14] 13 = [14] from rfl]; simp only [Act.put, List.setIfInBounds_toArray, List.set_cons_zero, List.set_cons_succ]
          refine TxtT.pure 14 (by rfl) (by rw [List.getElem?_toArray]; rfl) (by rfl) (by kernel_rfl) (by rfl) ?_; apply Exists.intro; refine ⟨fun w1 hS1 => ?_, ?_⟩; (focus (skip; go_simp; with_reducible rfl))
          rw [show List.erase [14] 14 = [] from rfl]; simp only [Act.put, List.setIfInBounds_toArray, List.set_cons_zero, List.set_cons_succ]
          refine ⟨rfl, fun w1 hS1 hJ1 => ?_⟩
          go_wp2_with fail
          go_meet
          exact ⟨q, k, f, t, A1, c1, B1, d1, F1, f1, rfl, rfl, rfl, hJ1⟩
        ·
          rintro _ ⟨q, rfl⟩
          rw [show List.erase [6, 7, 8, 9, 10, 11, 12, 13, 14] 11 = [6, 7, 8, 9, 10, 12, 13, 14] from rfl]; simp only [Act.put, List.setIfInBounds_toArray, List.set_cons_zero, List.set_cons_succ]
          refine TxtT.weakJ (J2 := fun w' => BxO (some q) wr.heap.size w') (fun w1 h => by obtain ⟨q', hq, h⟩ := h; injection hq with hq; injection hq with hq; injection hq with hq _ _; subst hq; exact h) ?_
          refine TxtT.one 6 (by kernel_rfl) (by rw [List.getElem?_toArray]; rfl) (by rfl) (by rfl) (fun v => ∃ A1 c1 B1 d1 F1 f1, v = avV (apN n l k f t : Nat) A1 (apL n l k f t).length c1 B1 (apG n l k f t).length d1 F1 (apF n l k f t).length f1 (chkE n l k f t)) (fun v w' => BxO (some q) wr.heap.size w' ∧ ∀ A1 c1 B1 d1 F1 f1, v = avV (apN n l k f t : Nat) A1 (apL n l k f t).length c1 B1 (apG n l k f t).length d1 F1 (apF n l k f t).length f1 (chkE n l k f t) → AvJ wr.heap.size (apL n l k f t) (apG n l k f t) (apF n l k f t) A1 c1 B1 d1 F1 (some q) w') (fun w1 hS1 hJ1 => ?_) ?_
          · refine Eff.call (f := 41) (args := #[.agg #[.int .i64 (n : Int), .slice A l.length c, .slice B G.length d], .agg #[.int .i64 k, .int .i64 f, .int .i64 t]]) (by go_simp) ((Happ.out k f t A c B d w1 m0 (hV.grown hS1.2 hpm) (hT.grown hS1.2 (by omega))).mono ?_)
            rintro e w' ⟨A1, c1, B1, d1, F1, f1, rfl, ⟨hr1, hn1, hu1⟩, ⟨hi1, hm1, hu2⟩, ⟨hf1, hu3⟩, hb⟩
            refine ⟨_, rfl, ⟨hS1.1.kept hb, grownBy_trans hS1.2 (grownBy_of_below hb _)⟩, ⟨A1, c1, B1, d1, F1, f1, rfl⟩, BxO.grown hJ1 (grownBy_of_below hb (some p)) (by have := hS1.2.size; omega), fun A2 c2 B2 d2 F2 f2 e => ?_⟩
            simp only [avV, Value.tuple.injEq, Value.agg.injEq, Array.mk.injEq, List.cons.injEq, Value.slice.injEq, true_and, and_true] at e
            obtain ⟨⟨⟨rfl, rfl⟩, rfl, rfl⟩, rfl, rfl⟩ := e
            exact ⟨DyV.mono ⟨hr1, hn1, hi1, hm1, hu1, hu2⟩ hS1.2.size, hf1, fun q hq => ⟨fun b x e _ => by have := hu1 b x e; have := (hJ1 q hq).2.lt; omega, fun b x e _ => by have := hu2 b x e; have := (hJ1 q hq).2.lt; omega, fun b x e _ => by have := hu3 b x e; have := (hJ1 q hq).2.lt; omega⟩⟩
          rintro _ ⟨A1, c1, B1, d1, F1, f1, rfl⟩
          unfold avV
          rw [show List.erase [6, 7, 8, 9, 10, 12, 13, 14] 6 = [7, 8, 9, 10, 12, 13, 14] from rfl]; simp only [Act.put, List.setIfInBounds_toArray, List.set_cons_zero, List.set_cons_succ]
          refine TxtT.pure 7 (by rfl) (by rw [List.getElem?_toArray]; rfl) (by rfl) (by kernel_rfl) (by rfl) ?_; apply Exists.intro; refine ⟨fun w1 hS1 => ?_, ?_⟩; (focus (skip; go_simp; with_reducible rfl))
          rw [show List.erase [7, 8, 9, 10, 12, 13, 14] 7 = [8, 9, 10, 12, 13, 14] from rfl]; simp only [Act.put, List.setIfInBounds_toArray, List.set_cons_zero, List.set_cons_succ]
          refine TxtT.pure 8 (by rfl) (by rw [List.getElem?_toArray]; rfl) (by rfl) (by kernel_rfl) (by rfl) ?_; apply Exists.intro; refine ⟨fun w1 hS1 => ?_, ?_⟩; (focus (skip; go_simp; with_reducible rfl))
          rw [show List.erase [8, 9, 10, 12, 13, 14] 8 = [9, 10, 12, 13, 14] from rfl]; simp only [Act.put, List.setIfInBounds_toArray, List.set_cons_zero, List.set_cons_succ]
          refine TxtT.pure 9 (by rfl) (by rw [List.getElem?_toArray]; rfl) (by rfl) (by kernel_rfl) (by rfl) ?_; apply Exists.intro; refine ⟨fun w1 hS1 => ?_, ?_⟩; (focus (skip; go_simp; with_reducible rfl))
          rw [show List.erase [9, 10, 12, 13, 14] 9 = [10, 12, 13, 14] from rfl]; simp only [Act.put, List.setIfInBounds_toArray, List.set_cons_zero, List.set_cons_succ]
          refine TxtT.pure 10 (by rfl) (by rw [List.getElem?_toArray]; rfl) (by rfl) (by kernel_rfl) (by rfl) ?_; apply Exists.intro; refine ⟨fun w1 hS1 => ?_, ?_⟩; (focus (skip; go_simp; with_reducible rfl))
          rw [show List.erase [10, 12, 13, 14] 10 = [12, 13, 14] from rfl]; simp only [Act.put, List.setIfInBounds_toArray, List.set_cons_zero, List.set_cons_succ]
          refine TxtT.one 12 (by kernel_rfl) (by rw [List.getElem?_toArray]; rfl) (by rfl) (by rfl) (fun v => v = undef) (fun _ w' => JFin wr p q k f t n l A1 c1 B1 d1 F1 f1 w') (fun w1 hS1 hJ1 => ?_) ?_
          · obtain ⟨hq, hk⟩ := hJ1.1 q rfl
            obtain ⟨g0, g1, g2, z0, z1, z2⟩ := hk.threeF
            have hst := JFin.of_store (k := k) (f := f) (t := t) (n := n) (l := l) (f1 := f1) hS1.1 hS1.2 hpw hq hk (hJ1.2 _ _ _ _ _ _ rfl)
            exact Eff.skip (w' := ((w1.setCell ⟨q, 0, none⟩ (.int .i64 (apN n l k f t : Nat))).setCell ⟨q, 1, none⟩ (.slice A1 (apL n l k f t).length c1)).setCell ⟨q, 2, none⟩ (.slice B1 (apG n l k f t).length d1)) (by go_simp) ⟨⟨hst.src, hst.grown⟩, rfl, hst⟩
          rintro _ rfl
          rw [show List.erase [12, 13, 14] 12 = [13, 14] from rfl]; simp only [Act.put]
          refine TxtT.pure 13 (by rfl) (by rw [List.getElem?_toArray]; rfl) (by rfl) (by kernel_rfl) (by rfl) ?_; apply Exists.intro; refine ⟨fun w1 hS1 => ?_, ?_⟩; (focus (skip; go_simp; with_reducible rfl))
          rw [show List.erase [13, 14] 13 = [14] from rfl]; simp only [Act.put, List.setIfInBounds_toArray, List.set_cons_zero, List.set_cons_succ]
          refine TxtT.pure 14 (by rfl) (by rw [List.getElem?_toArray]; rfl) (by rfl) (by kernel_rfl) (by rfl) ?_; apply Exists.intro; refine ⟨fun w1 hS1 => ?_, ?_⟩; (focus (skip; go_simp; with_reducible rfl))
          rw [show List.erase [14] 14 = [] from rfl]; simp only [Act.put, List.setIfInBounds_toArray, List.set_cons_zero, List.set_cons_succ]
          refine ⟨rfl, fun w1 hS1 hJ1 => ?_⟩
          go_wp2_with fail
          go_meet
          exact ⟨q, k, f, t, A1, c1, B1, d1, F1, f1, rfl, rfl, rfl, hJ1⟩
      ·
        rintro _ ⟨q, rfl⟩
        rw [show List.erase [5, 6, 7, 8, 9, 10, 11, 12, 13, 14] 11 = [5, 6, 7, 8, 9, 10, 12, 13, 14] from rfl]; simp only [Act.put, List.setIfInBounds_toArray, List.set_cons_zero, List.set_cons_succ]
        refine TxtT.weakJ (J2 := fun w' => BxO (some q) wr.heap.size w') (fun w1 h => by obtain ⟨q', hq, h⟩ := h; injection hq with hq; injection hq with hq; injection hq with hq _ _; subst hq; exact h) ?_
        refine TxtT.one 5 (by kernel_rfl) (by rw [List.getElem?_toArray]; rfl) (by rfl) (by rfl) (fun v => ∃ k f t : Int, v = Value.agg #[.int .i64 k, .int .i64 f, .int .i64 t]) (fun _ w' => BxO (some q) wr.heap.size w') (fun w1 hS1 hJ1 => ?_) ?_
        · refine Eff.call (f := 42) (args := #[.pointer (some ⟨p, 0, none⟩), .int .i64 (n : Int)]) (by go_simp) ((change_any p n w1 hS1.1 (by omega) (by omega)).mono ?_)
          rintro e w' ⟨k, f, t, rfl, hs, hg⟩
          exact ⟨_, rfl, ⟨hs, grownBy_trans hS1.2 hg⟩, ⟨k, f, t, rfl⟩, BxO.grown hJ1 hg (by have := hS1.2.size; omega)⟩
        rintro _ ⟨k, f, t, rfl⟩
        rw [show List.erase [5, 6, 7, 8, 9, 10, 12, 13, 14] 5 = [6, 7, 8, 9, 10, 12, 13, 14] from rfl]; simp only [Act.put, List.setIfInBounds_toArray, List.set_cons_zero, List.set_cons_succ]
        refine TxtT.one 6 (by kernel_rfl) (by rw [List.getElem?_toArray]; rfl) (by rfl) (by rfl) (fun v => ∃ A1 c1 B1 d1 F1 f1, v = avV (apN n l k f t : Nat) A1 (apL n l k f t).length c1 B1 (apG n l k f t).length d1 F1 (apF n l k f t).length f1 (chkE n l k f t)) (fun v w' => BxO (some q) wr.heap.size w' ∧ ∀ A1 c1 B1 d1 F1 f1, v = avV (apN n l k f t : Nat) A1 (apL n l k f t).length c1 B1 (apG n l k f t).length d1 F1 (apF n l k f t).length f1 (chkE n l k f t) → AvJ wr.heap.size (apL n l k f t) (apG n l k f t) (apF n l k f t) A1 c1 B1 d1 F1 (some q) w') (fun w1 hS1 hJ1 => ?_) ?_
        · refine Eff.call (f := 41) (args := #[.agg #[.int .i64 (n : Int), .slice A l.length c, .slice B G.length d], .agg #[.int .i64 k, .int .i64 f, .int .i64 t]]) (by go_simp) ((Happ.out k f t A c B d w1 m0 (hV.grown hS1.2 hpm) (hT.grown hS1.2 (by omega))).mono ?_)
          rintro e w' ⟨A1, c1, B1, d1, F1, f1, rfl, ⟨hr1, hn1, hu1⟩, ⟨hi1, hm1, hu2⟩, ⟨hf1, hu3⟩, hb⟩
          refine ⟨_, rfl, ⟨hS1.1.kept hb, grownBy_trans hS1.2 (grownBy_of_below hb _)⟩, ⟨A1, c1, B1, d1, F1, f1, rfl⟩, BxO.grown hJ1 (grownBy_of_below hb (some p)) (by have := hS1.2.size; omega), fun A2 c2 B2 d2 F2 f2 e => ?_⟩
          simp only [avV, Value.tuple.injEq, Value.agg.injEq, Array.mk.injEq, List.cons.injEq, Value.slice.injEq, true_and, and_true] at e
          obtain ⟨⟨⟨rfl, rfl⟩, rfl, rfl⟩, rfl, rfl⟩ := e
          exact ⟨DyV.mono ⟨hr1, hn1, hi1, hm1, hu1, hu2⟩ hS1.2.size, hf1, fun q hq => ⟨fun b x e _ => by have := hu1 b x e; have := (hJ1 q hq).2.lt; omega, fun b x e _ => by have := hu2 b x e; have := (hJ1 q hq).2.lt; omega, fun b x e _ => by have := hu3 b x e; have := (hJ1 q hq).2.lt; omega⟩⟩
        rintro _ ⟨A1, c1, B1, d1, F1, f1, rfl⟩
        unfold avV
        rw [show List.erase [6, 7, 8, 9, 10, 12, 13, 14] 6 = [7, 8, 9, 10, 12, 13, 14] from rfl]; simp only [Act.put, List.setIfInBounds_toArray, List.set_cons_zero, List.set_cons_succ]
        refine TxtT.pure 7 (by rfl) (by rw [List.getElem?_toArray]; rfl) (by rfl) (by kernel_rfl) (by rfl) ?_; apply Exists.intro; refine ⟨fun w1 hS1 => ?_, ?_⟩; (focus (skip; go_simp; with_reducible rfl))
        rw [show List.erase [7, 8, 9, 10, 12, 13, 14] 7 = [8, 9, 10, 12, 13, 14] from rfl]; simp only [Act.put, List.setIfInBounds_toArray, List.set_cons_zero, List.set_cons_succ]
        refine TxtT.pure 8 (by rfl) (by rw [List.getElem?_toArray]; rfl) (by rfl) (by kernel_rfl) (by rfl) ?_; apply Exists.intro; refine ⟨fun w1 hS1 => ?_, ?_⟩; (focus (skip; go_simp; with_reducible rfl))
        rw [show List.erase [8, 9, 10, 12, 13, 14] 8 = [9, 10, 12, 13, 14] from rfl]; simp only [Act.put, List.setIfInBounds_toArray, List.set_cons_zero, List.set_cons_succ]
        refine TxtT.pure 9 (by rfl) (by rw [List.getElem?_toArray]; rfl) (by rfl) (by kernel_rfl) (by rfl) ?_; apply Exists.intro; refine ⟨fun w1 hS1 => ?_, ?_⟩; (focus (skip; go_simp; with_reducible rfl))
        rw [show List.erase [9, 10, 12, 13, 14] 9 = [10, 12, 13, 14] from rfl]; simp only [Act.put, List.setIfInBounds_toArray, List.set_cons_zero, List.set_cons_succ]
        refine TxtT.pure 10 (by rfl) (by rw [List.getElem?_toArray]; rfl) (by rfl) (by kernel_rfl) (by rfl) ?_; apply Exists.intro; refine ⟨fun w1 hS1 => ?_, ?_⟩; (focus (skip; go_simp; with_reducible rfl))
        rw [show List.erase [10, 12, 13, 14] 10 = [12, 13, 14] from rfl]; simp only [Act.put, List.setIfInBounds_toArray, List.set_cons_zero, List.set_cons_succ]
        refine TxtT.one 12 (by kernel_rfl) (by rw [List.getElem?_toArray]; rfl) (by rfl) (by rfl) (fun v => v = undef) (fun _ w' => JFin wr p q k f t n l A1 c1 B1 d1 F1 f1 w') (fun w1 hS1 hJ1 => ?_) ?_
        · obtain ⟨hq, hk⟩ := hJ1.1 q rfl
          obtain ⟨g0, g1, g2, z0, z1, z2⟩ := hk.threeF
          have hst := JFin.of_store (k := k) (f := f) (t := t) (n := n) (l := l) (f1 := f1) hS1.1 hS1.2 hpw hq hk (hJ1.2 _ _ _ _ _ _ rfl)
          exact Eff.skip (w' := ((w1.setCell ⟨q, 0, none⟩ (.int .i64 (apN n l k f t : Nat))).setCell ⟨q, 1, none⟩ (.slice A1 (apL n l k f t).length c1)).setCell ⟨q, 2, none⟩ (.slice B1 (apG n l k f t).length d1)) (by go_simp) ⟨⟨hst.src, hst.grown⟩, rfl, hst⟩
        rintro _ rfl
        rw [show List.erase [12, 13, 14] 12 = [13, 14] from rfl]; simp only [Act.put]
        refine TxtT.pure 13 (by rfl) (by rw [List.getElem?_toArray]; rfl) (by rfl) (by kernel_rfl) (by rfl) ?_; apply Exists.intro; refine ⟨fun w1 hS1 => ?_, ?_⟩; (focus (skip; go_simp; with_reducible rfl))
        rw [show List.erase [13, 14] 13 = [14] from rfl]; simp only [Act.put, List.setIfInBounds_toArray, List.set_cons_zero, List.set_cons_succ]
        refine TxtT.pure 14 (by rfl) (by rw [List.getElem?_toArray]; rfl) (by rfl) (by kernel_rfl) (by rfl) ?_; apply Exists.intro; refine ⟨fun w1 hS1 => ?_, ?_⟩; (focus (skip; go_simp; with_reducible rfl))
        rw [show List.erase [14] 14 = [] from rfl]; simp only [Act.put, List.setIfInBounds_toArray, List.set_cons_zero, List.set_cons_succ]
        refine ⟨rfl, fun w1 hS1 hJ1 => ?_⟩
        go_wp2_with fail
        go_meet
        exact ⟨q, k, f, t, A1, c1, B1, d1, F1, f1, rfl, rfl, rfl, hJ1⟩
    obtain ⟨q, k, f, t, A1, c1, B1, d1, F1, f1, rfl, rfl, rfl, hJ⟩ := hcut
    obtain ⟨W1, hW1⟩ : ∃ W1, W1 = wc := ⟨_, rfl⟩
    subst hW1
    obtain ⟨hq0, kx, hVx, hFx, hsx, hgx⟩ := hJ
    have kd := k0.grown hgx (fun e => by injection e with e; omega)
    have hVd := hV.grown hgx hpm
    have hTx := hT.grown hgx (by omega)
    have hbbx : Below w.heap.size w W1 := hbw5.grown hgx hbw5.size (fun k hk => by injection hk with hk; omega)
    have hDx : D < W1.heap.size := by have := hgx.size; omega
    have hDwr : D < wr.heap.size := hDw
    have hm0w : m0 ≤ wr.heap.size := by omega
    have hDw0 : w.heap.size ≤ D := by omega
    clear k0 hV hs hT hbw5 hgx Happ
    by_cases hE : chkE n l k f t = 0
    case neg =>
      have hEb : (chkE n l k f t != 0) = true := by rw [bne_iff_ne]; exact hE
      clear hE
      generalize chkE n l k f t = E at *
      go_wp2_with fail
      go_roundw
      case rel => exact ⟨j + 1, n, l, A, c, B, d, by omega, by go_num, HV.out, by rw [HG.out]; exact kd, by rw [HG.out]; exact hVd, hsx, hTx, hbbx, hDx⟩
      case measure => simp [intOf]; omega
    case pos =>
    have hv' := ap_vld (k := k) (f := f) (t := t) HV.out
    have hsame := fun (i : Nat) (hi : i < chN n k) (ha : inB (affL (chN n k) (chL n l k f t) (rtL n l k t)) i = false) => anew_eq HV.out hE hi ha
    obtain ⟨e1, e2, e3⟩ := ap_ok hE
    unfold apG at kx hVx
    rw [e1, e2] at kx hVx hv'
    rw [e3] at hFx
    rw [HG.out] at hsame
    rw [e3, hE]
    have hFl : (affL (chN n k) (chL n l k f t) (rtL n l k t)).length ≤ chN n k := nodesB_length _ _
    clear e1 e2 e3 hE
    generalize rtL n l k t = rt at *
    generalize chL n l k f t = l' at *
    generalize chN n k = n' at *
    generalize affL n' l' rt = F' at *
    have hgl : (lst n' (grL n' l')).length = n' := lst_length _ _
    have hn' := hv'.1.1
    have Hlab := Lib.hid (fun W (h : RP W A1 l') (h2 : Tab W) => gLabel_any A1 n' l' c1 W h hv' h2)
    have Hval := fun W (h : RP W A1 l') => r10Validate_any A1 (n' : Int) l' c1 W h hv'.1.2.1
    rw [hv'.valE] at Hval
    obtain ⟨G', hG'⟩ : ∃ G', lst n' (grL n' l') = G' := ⟨_, rfl⟩
    rw [hG'] at kx hVx hsame hgl Hlab
    have Hints := fun W A2 c2 (h : RI W B1 G') (h2 : RI W A2 G') => ints_any B1 A2 G' G' d1 c2 W (by omega) (by omega) h h2
    rw [show eqB G' G' = true by simp [eqB]] at Hints
    have hln : ((G'.length : Int) != (n' : Int)) = false := by rw [bne_eq_false_iff_eq]; omega
    have hFl' : F'.length ≤ 4611686018427387904 := by omega
    have Hgl := Lib.hid hgl; have HG' := Lib.hid hG'; have HV' := Lib.hid hv'; have Hsame := Lib.hid hsame
    clear hgl hG' hv' hsame hFl
    go_upto_region 10 with fail
    refine wp_region_textB [4, 5, 6, 7, 15, 16, 19] (fun w' => Below W1.heap.size W1 w') (fun _ => True) (by kernel_rfl) (by kernel_rfl) (by kernel_rfl) (Below.refl _ _).drew trivial ?_
    repeat (first
      | (refine TxtBL.skip (by rfl) ?_; simp only [Act.put, List.setIfInBounds_toArray, List.set_cons_zero, List.set_cons_succ])
      | (refine TxtBL.take (by rfl) (by rfl) ?_; apply Exists.intro; refine ⟨fun w1 hS1 => ?_, ?_⟩; (focus ((obtain ⟨g0, g1, g2, _, _, _⟩ := (kx.below hS1 kx.lt).threeF); go_simp; with_reducible rfl)); simp only [Act.put, List.setIfInBounds_toArray, List.set_cons_zero, List.set_cons_succ])
      | (refine TxtBL.takeE (by rfl) (by rfl) ?_; apply Exists.intro; refine ⟨fun w1 hS1 => ?_, ?_⟩; (focus ((obtain ⟨g0, g1, g2, _, _, _⟩ := (kx.below hS1 kx.lt).threeF); go_simp; with_reducible rfl)); simp only [Act.put, List.setIfInBounds_toArray, List.set_cons_zero, List.set_cons_succ]))
    refine TxtBL.call (f := 43) (args := #[.agg #[.int .i64 (n' : Int), .slice A1 l'.length c1]]) (fun u => ∃ A2 c2, u = .slice A2 G'.length c2) (fun u w' => ∀ A2 c2, u = .slice A2 G'.length c2 → RI w' A2 G') (by rfl) (by rfl) ⟨_, none, 0, rfl⟩ (fun w1 hS1 hJ1 => by go_simp) (fun w1 hS1 hJ1 => ?_) ?_
    · refine (Hlab.out w1 (hVx.rp.below hS1) (hTx.below hS1)).mono ?_
      rintro e w' ⟨A2, c2, rfl, _, hri, _, hb⟩
      refine ⟨_, rfl, hS1.trans (hb.mono hS1.size), ⟨A2, c2, rfl⟩, fun A3 c3 e => ?_⟩
      injection e with e _ _; rw [← e]; exact hri
    rintro v12 ⟨A2, c2, rfl⟩
    simp only [Act.put, List.setIfInBounds_toArray, List.set_cons_zero, List.set_cons_succ]
    repeat (first
      | (refine TxtBL.skip (by rfl) ?_; simp only [Act.put, List.setIfInBounds_toArray, List.set_cons_zero, List.set_cons_succ])
      | (refine TxtBL.take (by rfl) (by rfl) ?_; apply Exists.intro; refine ⟨fun w1 hS1 => ?_, ?_⟩; (focus (skip; go_simp; with_reducible rfl)); simp only [Act.put, List.setIfInBounds_toArray, List.set_cons_zero, List.set_cons_succ])
      | (refine TxtBL.takeE (by rfl) (by rfl) ?_; apply Exists.intro; refine ⟨fun w1 hS1 => ?_, ?_⟩; (focus (skip; go_simp; with_reducible rfl)); simp only [Act.put, List.setIfInBounds_toArray, List.set_cons_zero, List.set_cons_succ]))
    refine TxtBL.call (f := 28) (args := #[.slice B1 G'.length d1, .slice A2 G'.length c2]) (fun u => u = .bool true) (fun _ _ => True) (by rfl) (by rfl) ⟨_, rfl⟩ (fun w1 hS1 hJ1 => by go_simp) (fun w1 hS1 hJ1 => ?_) ?_
    · refine (Hints w1 A2 c2 (hVx.ri.below hS1) (hJ1 _ _ rfl)).mono fun _ _ h => ?_
      have h := h.below
      exact ⟨_, h.1, hS1.trans (h.2.mono hS1.size), rfl, trivial⟩
    rintro v13 rfl
    simp only [Act.put, List.setIfInBounds_toArray, List.set_cons_zero, List.set_cons_succ]
    repeat (first
      | (refine TxtBL.skip (by rfl) ?_; simp only [Act.put, List.setIfInBounds_toArray, List.set_cons_zero, List.set_cons_succ])
      | (refine TxtBL.take (by rfl) (by rfl) ?_; apply Exists.intro; refine ⟨fun w1 hS1 => ?_, ?_⟩; (focus ((obtain ⟨g0, g1, g2, _, _, _⟩ := (kx.below hS1 kx.lt).threeF); go_simp; with_reducible rfl)); simp only [Act.put, List.setIfInBounds_toArray, List.set_cons_zero, List.set_cons_succ])
      | (refine TxtBL.takeE (by rfl) (by rfl) ?_; apply Exists.intro; refine ⟨fun w1 hS1 => ?_, ?_⟩; (focus ((obtain ⟨g0, g1, g2, _, _, _⟩ := (kx.below hS1 kx.lt).threeF); go_simp; with_reducible rfl)); simp only [Act.put, List.setIfInBounds_toArray, List.set_cons_zero, List.set_cons_succ]))
    refine TxtBL.call (f := 32) (args := #[.agg #[.int .i64 (n' : Int), .slice A1 l'.length c1]]) (fun u => u = .int .i64 0) (fun _ _ => True) (by rfl) (by rfl) ⟨_, rfl⟩ (fun w1 hS1 hJ1 => by go_simp) (fun w1 hS1 hJ1 => ?_) ?_
    · exact (Hval w1 (hVx.rp.below hS1)).mono fun _ _ h => ⟨_, h.1, hS1.trans (h.2.mono hS1.size), rfl, trivial⟩
    rintro v19 rfl
    simp only [Act.put, List.setIfInBounds_toArray, List.set_cons_zero, List.set_cons_succ]
    repeat (first
      | (refine TxtBL.skip (by rfl) ?_; simp only [Act.put, List.setIfInBounds_toArray, List.set_cons_zero, List.set_cons_succ])
      | (refine TxtBL.take (by rfl) (by rfl) ?_; apply Exists.intro; refine ⟨fun w1 hS1 => ?_, ?_⟩; (focus (skip; go_simp; with_reducible rfl)); simp only [Act.put, List.setIfInBounds_toArray, List.set_cons_zero, List.set_cons_succ])
      | (refine TxtBL.takeE (by rfl) (by rfl) ?_; apply Exists.intro; refine ⟨fun w1 hS1 => ?_, ?_⟩; (focus (skip; go_simp; with_reducible rfl)); simp only [Act.put, List.setIfInBounds_toArray, List.set_cons_zero, List.set_cons_succ]))
    refine TxtBL.nil (fun w11 hS _ => ?_)
    have kx11 := kx.below hS kx.lt
    have kd11 := kd.below hS hDx
    have hVx11 := hVx.below hS
    have hVd11 := hVd.below hS
    have hFx11 := hFx.below hS
    have hs11 := hsx.kept hS
    have hbb11 := endB hbbx hS
    have hD11 : D < w11.heap.size := Nat.lt_of_lt_of_le hDx hS.size
    clear kx kd hVx hVd hFx hsx hTx hbbx hDx hS Hlab Hval Hints hln
    go_wp2_with fail
    go_loopw [10] (fun ii wi => ∃ i : Nat, i ≤ n' ∧ ii = .int .i64 i ∧ Below w11.heap.size w11 wi) (fun ii _ => n' - (intOf ii).toNat)
    case atStart => exact ⟨0, by omega, rfl, Below.refl _ _⟩
    case round =>
      obtain ⟨i, hi, rfl, hbi⟩ := hrel
      obtain ⟨wi, hwi⟩ : ∃ x, x = wr := ⟨_, rfl⟩
      subst hwi
      have kxi := kx11.below hbi kx11.lt
      have kdi := kd11.below hbi hD11
      have hVxi := hVx11.below hbi
      have hVdi := hVd11.below hbi
      have hFxi := hFx11.below hbi
      have hsi := hs11.kept hbi
      have hbbi := endB hbb11 hbi
      have hDi : D < wi.heap.size := Nat.lt_of_lt_of_le hD11 hbi.size
      obtain ⟨x0, x1, x2, _, _, _⟩ := kxi.threeF
      obtain ⟨y0, y1, y2, z0, z1, z2⟩ := kdi.threeF
      by_cases h1 : i < n'
      case neg =>
        have h1' : ¬ (i : Int) < (n' : Int) := by omega
        go_wp2_with fail
        go_roundw
        case rel =>
          have hw2 : Below w.heap.size w (((wi.setCell ⟨D, 0, none⟩ (.int .i64 (n' : Int))).setCell ⟨D, 1, none⟩ (.slice A1 l'.length c1)).setCell ⟨D, 2, none⟩ (.slice B1 G'.length d1)) := ((hbbi.setCell (p := ⟨D, 0, none⟩) hDw0 _).setCell (p := ⟨D, 1, none⟩) hDw0 _).setCell (p := ⟨D, 2, none⟩) hDw0 _
          exact ⟨j + 1, n', l', A1, c1, B1, d1, by omega, by go_num, HV'.out, by rw [HG'.out]; exact set3 kdi _ _ _, by rw [HG'.out]; exact (hVxi.set3 hDwr _ _ _).mono hm0w, src_set3 hsi (by omega) _ _ _, HT0.out.below hw2, hw2, by simp; omega⟩
        case measure => simp [intOf]; omega
      case pos =>
      have h1' : (i : Int) < (n' : Int) := by omega
      by_cases h2 : i < G.length
      case neg =>
        have h2' : ¬ (i : Int) < (G.length : Int) := by omega
        go_wp2_with fail
        go_roundw
        case rel =>
          have hw2 : Below w.heap.size w (((wi.setCell ⟨D, 0, none⟩ (.int .i64 (n' : Int))).setCell ⟨D, 1, none⟩ (.slice A1 l'.length c1)).setCell ⟨D, 2, none⟩ (.slice B1 G'.length d1)) := ((hbbi.setCell (p := ⟨D, 0, none⟩) hDw0 _).setCell (p := ⟨D, 1, none⟩) hDw0 _).setCell (p := ⟨D, 2, none⟩) hDw0 _
          exact ⟨j + 1, n', l', A1, c1, B1, d1, by omega, by go_num, HV'.out, by rw [HG'.out]; exact set3 kdi _ _ _, by rw [HG'.out]; exact (hVxi.set3 hDwr _ _ _).mono hm0w, src_set3 hsi (by omega) _ _ _, HT0.out.below hw2, hw2, by simp; omega⟩
        case measure => simp [intOf]; omega
      case pos =>
      have h2' : (i : Int) < (G.length : Int) := by omega
      have h0' : (0 : Int) ≤ (i : Int) := by omega
      have h3 : i < G'.length := by have := Hgl.out; omega
      have h3' : (i : Int) < (G'.length : Int) := by omega
      obtain ⟨b1, o1, rfl, hc1⟩ := hVxi.ri i h3
      obtain ⟨b2, o2, rfl, hc2⟩ := hVdi.ri i h2
      have hin := in_any F1 F' f1 (i : Int) wi hFl' hFxi
      have hsm := Hsame.out i h1
      go_upto_region 15 with fail
      cases hb : inB F' (i : Int)
      · rw [hb] at hin
        rw [hsm hb] at hc1
        generalize G.getD i 0 = y at *
        have hyy : (y != y) = false := by simp
        clear hsm h3 h2
        refine wp_region_textB [2] (fun w' => Below wi.heap.size wi w') (fun _ => True) (by kernel_rfl) (by kernel_rfl) (by kernel_rfl) (Below.refl _ _).drew trivial ?_
        repeat (first
          | (refine TxtBL.skip (by rfl) ?_; simp only [Act.put, List.setIfInBounds_toArray, List.set_cons_zero, List.set_cons_succ])
          | (refine TxtBL.take (by rfl) (by rfl) ?_; apply Exists.intro; refine ⟨fun w1 hS1 => ?_, ?_⟩; (focus (skip; go_simp; with_reducible rfl)); simp only [Act.put, List.setIfInBounds_toArray, List.set_cons_zero, List.set_cons_succ])
          | (refine TxtBL.takeE (by rfl) (by rfl) ?_; apply Exists.intro; refine ⟨fun w1 hS1 => ?_, ?_⟩; (focus (skip; go_simp; with_reducible rfl)); simp only [Act.put, List.setIfInBounds_toArray, List.set_cons_zero, List.set_cons_succ]))
        refine TxtBL.call (f := 23) (args := #[.slice F1 F'.length f1, .int .i64 i]) (fun u => u = .bool false) (fun _ _ => True) (by rfl) (by rfl) ⟨_, rfl⟩ (fun w1 hS1 hJ1 => by go_simp) (fun w1 hS1 hJ1 => ?_) ?_
        · have hin := in_any F1 F' f1 (i : Int) w1 hFl' (hFxi.below hS1)
          rw [hb] at hin
          exact hin.mono fun _ _ h => ⟨_, h.1, by rw [← h.2]; exact hS1, rfl, trivial⟩
        rintro v2 rfl
        simp only [Act.put, List.setIfInBounds_toArray, List.set_cons_zero, List.set_cons_succ]
        repeat (first
          | (refine TxtBL.skip (by rfl) ?_; simp only [Act.put, List.setIfInBounds_toArray, List.set_cons_zero, List.set_cons_succ])
          | (refine TxtBL.take (by rfl) (by rfl) ?_; apply Exists.intro; refine ⟨fun w1 hS1 => ?_, ?_⟩; (focus ((obtain ⟨g0, g1, g2, _, _, _⟩ := (kxi.below hS1 kxi.lt).threeF; obtain ⟨u0, u1, u2, _, _, _⟩ := (kdi.below hS1 hDi).threeF; have v1 := (hS1.cell (lt_of_cell hc1)).trans hc1; have v2 := (hS1.cell (lt_of_cell hc2)).trans hc2); go_simp; with_reducible rfl)); simp only [Act.put, List.setIfInBounds_toArray, List.set_cons_zero, List.set_cons_succ])
          | (refine TxtBL.takeE (by rfl) (by rfl) ?_; apply Exists.intro; refine ⟨fun w1 hS1 => ?_, ?_⟩; (focus ((obtain ⟨g0, g1, g2, _, _, _⟩ := (kxi.below hS1 kxi.lt).threeF; obtain ⟨u0, u1, u2, _, _, _⟩ := (kdi.below hS1 hDi).threeF; have v1 := (hS1.cell (lt_of_cell hc1)).trans hc1; have v2 := (hS1.cell (lt_of_cell hc2)).trans hc2); go_simp; with_reducible rfl)); simp only [Act.put, List.setIfInBounds_toArray, List.set_cons_zero, List.set_cons_succ]))
        refine TxtBL.nil (fun wz hS _ => ?_)
        go_wp2_with fail
        go_roundw
        case rel => exact ⟨i + 1, by omega, by go_num, endB hbi hS⟩
        case measure => simp [intOf]; omega
      · clear hsm h3 h2
        refine wp_region_textB [2] (fun w' => Below wi.heap.size wi w') (fun _ => True) (by kernel_rfl) (by kernel_rfl) (by kernel_rfl) (Below.refl _ _).drew trivial ?_
        repeat (first
          | (refine TxtBL.skip (by rfl) ?_; simp only [Act.put, List.setIfInBounds_toArray, List.set_cons_zero, List.set_cons_succ])
          | (refine TxtBL.take (by rfl) (by rfl) ?_; apply Exists.intro; refine ⟨fun w1 hS1 => ?_, ?_⟩; (focus (skip; go_simp; with_reducible rfl)); simp only [Act.put, List.setIfInBounds_toArray, List.set_cons_zero, List.set_cons_succ])
          | (refine TxtBL.takeE (by rfl) (by rfl) ?_; apply Exists.intro; refine ⟨fun w1 hS1 => ?_, ?_⟩; (focus (skip; go_simp; with_reducible rfl)); simp only [Act.put, List.setIfInBounds_toArray, List.set_cons_zero, List.set_cons_succ]))
        refine TxtBL.call (f := 23) (args := #[.slice F1 F'.length f1, .int .i64 i]) (fun u => u = .bool true) (fun _ _ => True) (by rfl) (by rfl) ⟨_, rfl⟩ (fun w1 hS1 hJ1 => by go_simp) (fun w1 hS1 hJ1 => ?_) ?_
        · have hin := in_any F1 F' f1 (i : Int) w1 hFl' (hFxi.below hS1)
          rw [hb] at hin
          exact hin.mono fun _ _ h => ⟨_, h.1, by rw [← h.2]; exact hS1, rfl, trivial⟩
        rintro v2 rfl
        simp only [Act.put, List.setIfInBounds_toArray, List.set_cons_zero, List.set_cons_succ]
        repeat (first
          | (refine TxtBL.skip (by rfl) ?_; simp only [Act.put, List.setIfInBounds_toArray, List.set_cons_zero, List.set_cons_succ])
          | (refine TxtBL.take (by rfl) (by rfl) ?_; apply Exists.intro; refine ⟨fun w1 hS1 => ?_, ?_⟩; (focus (skip; go_simp; with_reducible rfl)); simp only [Act.put, List.setIfInBounds_toArray, List.set_cons_zero, List.set_cons_succ])
          | (refine TxtBL.takeE (by rfl) (by rfl) ?_; apply Exists.intro; refine ⟨fun w1 hS1 => ?_, ?_⟩; (focus (skip; go_simp; with_reducible rfl)); simp only [Act.put, List.setIfInBounds_toArray, List.set_cons_zero, List.set_cons_succ]))
        refine TxtBL.nil (fun wz hS _ => ?_)
        go_wp2_with fail
        go_roundw
        case rel => exact ⟨i + 1, by omega, by go_num, endB hbi hS⟩
        case measure => simp [intOf]; omega
end Go.Proofs.YtkflanjlnbdkmaaDoor
