/- The walk of the statement GroundedChecks. -/
import Derived.Test.YtiljbfeipfdmdaaDoorRChk
import Derived.Test.YtiljbfeipfdmdaaDoorSpo
namespace Go.Proofs.YtiljbfeipfdmdaaDoor
open Go.ChangeShapes Go.WideShapes Go.ChangeAt Go.RowKit

theorem GSt.set_ {w : World} {p G n : Nat} {l : List (Int × Int)} {AL : Option Addr} {cl : Nat} {wr : World} {g k : Nat} (h : GSt w p G n l AL cl wr) (hg : G < g) (u : Value) : GSt w p G n l AL cl (wr.setCell ⟨g, k, none⟩ u) := by
  have hpG := h.hpG
  have hp := h.hp
  refine ⟨?_, ?_, fun i hi => ?_, h.src.other (grownBy_setCell wr g k u) (fun j hj => by injection hj with hj; omega), h.hb.setCell (p := ⟨g, k, none⟩) (by show w.heap.size ≤ g; omega) u, h.hp, h.hpG, h.hA, h.hAG⟩
  · rw [World.cell?_setCell_other _ _ _ _ (fun e => by injection e; omega)]; exact h.c0
  · rw [World.cell?_setCell_other _ _ _ _ (fun e => by injection e; omega)]; exact h.c1
  · obtain ⟨b, o, hA, hc, hd⟩ := h.rp i hi
    have := h.hAG b o hA (fun e => by subst e; simp at hi)
    exact ⟨b, o, hA, by rw [World.cell?_setCell_other _ _ _ _ (fun e => by injection e; omega)]; exact hc, by rw [World.cell?_setCell_other _ _ _ _ (fun e => by injection e; omega)]; exact hd⟩

/-- cells k of the block g hold a graph, valid or not -/
def GrAt (g k : Nat) (W : World) : Prop := ∃ (N : Int) (A : Option Addr) (l : List (Int × Int)) (c : Nat), W.cell? ⟨g, k * 2, none⟩ = some (.int .i64 N) ∧ W.cell? ⟨g, k * 2 + 1, none⟩ = some (.slice A l.length c) ∧ RP W A l ∧ l.length ≤ 100000
theorem GrAt.below {g k : Nat} {W W' : World} (h : GrAt g k W) (hb : Below W.heap.size W W') : GrAt g k W' := by
  obtain ⟨N, A, l, c, h1, h2, h3, h4⟩ := h
  exact ⟨N, A, l, c, (hb.cell (lt_of_cell h1)).trans h1, (hb.cell (lt_of_cell h2)).trans h2, h3.below hb, h4⟩
/-- cell k of the block g holds a slice of numbers -/
def LsAt (g k : Nat) (W : World) : Prop := ∃ (A : Option Addr) (x : List Int) (c : Nat), W.cell? ⟨g, k, none⟩ = some (.slice A x.length c) ∧ RI W A x ∧ x.length ≤ 100000
theorem LsAt.below {g k : Nat} {W W' : World} (h : LsAt g k W) (hb : Below W.heap.size W W') : LsAt g k W' := by
  obtain ⟨A, x, c, h1, h2, h3⟩ := h
  exact ⟨A, x, c, (hb.cell (lt_of_cell h1)).trans h1, h2.below hb, h3⟩
theorem AnyO.at_ {p g k : Nat} {W : World} {v : Value} (h : AnyO p W v) (hc : W.cell? ⟨g, k, none⟩ = some v) : LsAt g k W := by
  obtain ⟨A, x, c, rfl, hr, hl, _, _⟩ := h
  exact ⟨A, x, c, hc, hr, hl⟩
/-- a new row of three slices -/
theorem lsAt_new {p : Nat} {W : World} (t : TypeId) {v1 v2 v3 : Value} (h1 : AnyO p W v1) (h2 : AnyO p W v2) (h3 : AnyO p W v3) :
    ∃ W', W.alloc (.cells #[v1, v2, v3] t) = W' ∧ (∀ j, j < 3 → LsAt W.heap.size j W') ∧ Below W.heap.size W W' := by
  refine ⟨_, rfl, fun j hj => ?_, newB _ _⟩
  have hk := Blk.new W t #[v1, v2, v3]
  match j, hj with
  | 0, _ => exact (h1.below (newB _ _)).at_ (by rw [hk.cell]; rfl)
  | 1, _ => exact (h2.below (newB _ _)).at_ (by rw [hk.cell]; rfl)
  | 2, _ => exact (h3.below (newB _ _)).at_ (by rw [hk.cell]; rfl)
theorem anyO_low {w : World} {p : Nat} {X : Option Addr} {x : List Int} {xc : Nat} (hr : RI w X x) (hl : x.length ≤ 100000) (hn : X = none → x = [] ∧ xc = 0) (hp : w.heap.size ≤ p) : AnyO p w (.slice X x.length xc) :=
  ⟨X, x, xc, rfl, hr, hl, hn, fun b o h hne e => by
    obtain ⟨b', o', hA, hcc⟩ := hr 0 (List.length_pos_iff.2 hne)
    rw [h] at hA
    injection hA with hA
    injection hA with hA
    subst hA
    have := lt_of_cell hcc
    simp at this; omega⟩

/-- the state while the reader is read: the graph, two own rows, lists that lie below them -/
structure CkS (W0 : World) (p G n : Nat) (l : List (Int × Int)) (AL : Option Addr) (cl B7 B8 : Nat) (v7 v8 : Value) (vs : List Value) (x7 y8 : List Int) (wr : World) : Prop where
  st : GSt W0 p G n l AL cl wr
  o7 : OwnI wr B7 v7 x7
  o8 : OwnI wr B8 v8 y8
  any : ∀ v ∈ vs, AnyB B7 p wr v
  hpB : p < B7
  hGB : G < B7
  h78 : B7 ≤ B8
  f7 : ∀ g, v7.ownBlock = some g → g < B8
namespace CkS
variable {W0 : World} {p G n : Nat} {l : List (Int × Int)} {AL : Option Addr} {cl B7 B8 : Nat} {v7 v8 : Value} {vs : List Value} {x7 y8 : List Int} {wr w' : World} {g c k m : Nat}
theorem read (h : CkS W0 p G n l AL cl B7 B8 v7 v8 vs x7 y8 wr) (hs : SrcOk w' p) (hg : wr.grownBy w' (some p)) : CkS W0 p G n l AL cl B7 B8 v7 v8 vs x7 y8 w' :=
  { h with st := h.st.grown hs hg, o7 := ownsRow_far h.o7 hg h.hpB, o8 := ownsRow_far h.o8 hg (Nat.lt_of_lt_of_le h.hpB h.h78), any := fun v hv => (h.any v hv).grown hg }
theorem put7 (h : CkS W0 p G n l AL cl B7 B8 (.slice (some ⟨g, 0, none⟩) m c) v8 vs x7 y8 wr) (hm : m = x7.length) (hk : k < x7.length) (u : Int) : CkS W0 p G n l AL cl B7 B8 (.slice (some ⟨g, 0, none⟩) m c) v8 vs (x7.set k u) y8 (wr.setCell ⟨g, k, none⟩ (.int .i64 u)) := by
  have hg : B7 ≤ g := (World.ownsRow.lt h.o7 g rfl).1
  have hg8 := h.f7 g rfl
  have hGB := h.hGB
  exact { h with st := h.st.set_ (by omega) _, o7 := by have := h.o7; subst hm; exact this.store hk u, o8 := h.o8.far (a := ⟨g, k, none⟩) (fun e => by have := (World.ownsRow.lt h.o8 g e).1; omega) _, any := fun v hv => (h.any v hv).below ((Below.refl B7 wr).setCell (p := ⟨g, k, none⟩) hg _) }
theorem put8 (h : CkS W0 p G n l AL cl B7 B8 v7 (.slice (some ⟨g, 0, none⟩) m c) vs x7 y8 wr) (hm : m = y8.length) (hk : k < y8.length) (u : Int) : CkS W0 p G n l AL cl B7 B8 v7 (.slice (some ⟨g, 0, none⟩) m c) vs x7 (y8.set k u) (wr.setCell ⟨g, k, none⟩ (.int .i64 u)) := by
  have hg : B8 ≤ g := (World.ownsRow.lt h.o8 g rfl).1
  have hGB := h.hGB
  have h78 := h.h78
  exact { h with st := h.st.set_ (by omega) _, o8 := by have := h.o8; subst hm; exact this.store hk u, o7 := h.o7.far (a := ⟨g, k, none⟩) (fun e => by have := h.f7 g e; omega) _, any := fun v hv => (h.any v hv).below ((Below.refl B7 wr).setCell (p := ⟨g, k, none⟩) (Nat.le_trans h78 hg) _) }
end CkS
theorem AnyB.toO {B p : Nat} {w : World} {v : Value} (h : AnyB B p w v) : AnyO p w v := h.any

theorem sorted_len {n : Nat} : ∀ (l : List (Int × Int)) (a : Nat), l.Pairwise ltP → (∀ q ∈ l, 0 ≤ q.1 ∧ q.1 < n ∧ 0 ≤ q.2 ∧ q.2 < n) → (∀ q ∈ l, (a : Int) ≤ q.1 * n + q.2) → l = [] ∨ l.length + a ≤ n * n
  | [], _, _, _, _ => .inl rfl
  | q :: l, a, hp, hr, ha => by
    right
    obtain ⟨h1, h2⟩ := List.pairwise_cons.1 hp
    obtain ⟨x, y⟩ := q
    have hq := hr _ (List.mem_cons_self ..)
    have haq := ha _ (List.mem_cons_self ..)
    simp only at hq haq
    obtain ⟨x, rfl⟩ := Int.eq_ofNat_of_zero_le hq.1
    obtain ⟨y, rfl⟩ := Int.eq_ofNat_of_zero_le hq.2.2.1
    have hx : x < n := by omega
    have hy : y < n := by omega
    have hxn : x * n + n ≤ n * n := by have := Nat.mul_le_mul_right n (show x + 1 ≤ n by omega); rw [Nat.succ_mul] at this; exact this
    have haq' : a ≤ x * n + y := by
      have : ((a : Nat) : Int) ≤ ((x * n + y : Nat) : Int) := by push_cast; exact haq
      omega
    have ih := sorted_len l (x * n + y + 1) h2 (fun p hp => hr p (List.mem_cons_of_mem _ hp)) (fun p hp => by
      have hl := h1 p hp
      have hpr := hr p (List.mem_cons_of_mem _ hp)
      obtain ⟨u, v⟩ := p
      simp only at hpr
      obtain ⟨u, rfl⟩ := Int.eq_ofNat_of_zero_le hpr.1
      obtain ⟨v, rfl⟩ := Int.eq_ofNat_of_zero_le hpr.2.2.1
      have hlt : x < u ∨ (x = u ∧ y < v) := by unfold ltP at hl; simp only at hl; omega
      have : x * n + y + 1 ≤ u * n + v := by
        rcases hlt with h | ⟨rfl, h⟩
        · have := Nat.mul_le_mul_right n (show x + 1 ≤ u by omega)
          rw [Nat.succ_mul] at this
          omega
        · omega
      have h3 : ((x * n + y + 1 : Nat) : Int) ≤ ((u * n + v : Nat) : Int) := by exact_mod_cast this
      push_cast at h3 ⊢
      exact h3)
    rcases ih with rfl | ih
    · simp; omega
    · simp only [List.length_cons]; omega
theorem vld_len {n : Nat} {l : List (Int × Int)} (h : Vld n l) : l.length ≤ n * n := by
  rcases sorted_len (n := n) l 0 h.2 (fun q hq => h.1.2.2 q hq) (fun q hq => by
    have := h.1.2.2 q hq
    have h1 : 0 ≤ q.1 * (n : Int) := Int.mul_nonneg this.1 (by omega)
    omega) with rfl | h
  · simp
  · omega

set_option maxRecDepth 100000 in
set_option maxHeartbeats 8000000 in
theorem checks_law_any (A0 : Option Addr) (N0 : Int) (l0 : List (Int × Int)) (c0 : Nat) (X : Option Addr) (x1 : List Int) (xc : Nat) (Y : Option Addr) (y1 : List Int) (yc : Nat) (A : Option Addr) (arg : List Int) (c : Nat) (w : World)
    (_hl0 : l0.length ≤ 9223372036854775807) (hr0 : RP w A0 l0) (_h0n : A0 = none → l0 = [] ∧ c0 = 0) (_hxl : x1.length ≤ 9223372036854775807) (hrx : RI w X x1) (hxn : X = none → x1 = [] ∧ xc = 0) (_hyl : y1.length ≤ 9223372036854775807) (hry : RI w Y y1) (hyn : Y = none → y1 = [] ∧ yc = 0)
    (hlc : arg.length ≤ c) (hc : c ≤ 9223372036854775807) (hr : RI w A arg) (hx : ∀ x ∈ arg, -9223372036854775808 ≤ x ∧ x ≤ 9223372036854775807) (hT : Tab w) :
    Calls Tryd.prog 12 #[.agg #[.int .i64 N0, .slice A0 l0.length c0], .slice X x1.length xc, .slice Y y1.length yc, .slice A arg.length c] w (RetB (.bool true) w) := by
  go_enter Tryd.func12, Tryd.ntmps12
  go_upto_region 1 with fail
  obtain ⟨W0, hW, b0, b1, hb0, hlt0⟩ := boxed w 27 (.int .i64 N0) (.slice A0 l0.length c0)
  rw [hW]
  clear hW
  by_cases h60 : 60 < l0.length
  · have hd : decide ((60 : Int) < (l0.length : Int)) = true := by rw [decide_eq_true_eq]; omega
    have H60 := Lib.hid h60; clear h60
    go_wp2_with fail
    go_ret
    exact ⟨rfl, hb0⟩
  have hd0 : decide ((60 : Int) < (l0.length : Int)) = false := by rw [decide_eq_false_iff_not]; omega
  by_cases h61 : 60 < x1.length
  · have hd : decide ((60 : Int) < (x1.length : Int)) = true := by rw [decide_eq_true_eq]; omega
    have H60 := Lib.hid h60; have H61 := Lib.hid h61; clear h60 h61
    go_wp2_with fail
    go_ret
    exact ⟨rfl, hb0⟩
  have hd1 : decide ((60 : Int) < (x1.length : Int)) = false := by rw [decide_eq_false_iff_not]; omega
  by_cases h62 : 60 < y1.length
  · have hd : decide ((60 : Int) < (y1.length : Int)) = true := by rw [decide_eq_true_eq]; omega
    have H60 := Lib.hid h60; have H61 := Lib.hid h61; have H62 := Lib.hid h62; clear h60 h61 h62
    go_wp2_with fail
    go_ret
    exact ⟨rfl, hb0⟩
  have hd2 : decide ((60 : Int) < (y1.length : Int)) = false := by rw [decide_eq_false_iff_not]; omega
  have hl60 : l0.length ≤ 100000 := by omega
  have hx60 : x1.length ≤ 100000 := by omega
  have hy60 : y1.length ≤ 100000 := by omega
  clear h60 h61 h62
  go_wp2_with fail
  refine (new_any A arg c W0 hlc hc (hr.below hb0) hx).mono ?_
  rintro e w1 ⟨p, rfl, hp, hs1, hb1⟩
  have hp1 := hs1.lt
  have hanx := anyO_low (hrx.below hb0) hx60 hxn hp
  have hany := anyO_low (hry.below hb0) hy60 hyn hp
  have hrR := hr0.below hb0
  have hT0 := hT.below hb0
  clear hr hx hd0 hd1 hd2 hrx hry hr0 hxn hyn hT
  go_wp2_with fail
  refine (graph2_any p 6 w1 hs1 (by omega)).mono ?_
  rintro e w2 ⟨n, l, AL, cl, rfl, hN, hv, hrp, hloc, hs2, hg2, hAn⟩
  have hb2 : Below W0.heap.size W0 w2 := hb1.trans (below_of_grownBy hg2 hp hb1.size)
  clear hs1 hb1 hg2
  go_wp2_with fail
  obtain ⟨W1, hW, k0, k1, hbx, hlt1⟩ := boxed w2 27 (.int .i64 n) (.slice AL l.length cl)
  rw [hW]
  clear hW
  have hst := GSt.start hp hp1 hb2 hs2 hrp hloc hbx k0 k1
  have hlen := hv.1.2.1
  have hln : l.length ≤ 36 := Nat.le_trans (vld_len hv) (Nat.le_trans (Nat.mul_le_mul hN hN) (by decide))
  have HV := Lib.hid hv; have HAn := Lib.hid hAn
  clear hs2 hrp hloc hbx k0 k1 hb2 hp1 hv hAn
  generalize w2.heap.size = G at *
  have hpW : p < W1.heap.size := hst.src.lt
  have hlx := lst_length n (grL n l)
  have hly := lst_length n (grR n l)
  have HLab := fun W (h1 : RP W AL l) => r12Label_any AL n l cl W h1 HV.out
  have HRan := fun W (h1 : RP W AL l) => r12Ranks_any AL n l cl W h1 HV.out
  generalize lst n (grL n l) = x at *
  generalize lst n (grR n l) = y at *
  have Hlx := Lib.hid hlx; have Hly := Lib.hid hly
  have hx6 : x.length ≤ 6 := by omega
  have hy6 : y.length ≤ 6 := by omega
  clear hlx hly
  refine wp_region_textB [1, 3] (fun w' => GSt W0 p G n l AL cl w' ∧ W1.heap.size ≤ w'.heap.size) (fun _ => True) (by kernel_rfl) (by kernel_rfl) (by kernel_rfl) ⟨hst.below (Below.refl _ _).drew, Nat.le_refl _⟩ trivial ?_
  repeat (first
    | (refine TxtBL.skip (by rfl) ?_; simp only [Act.put, List.setIfInBounds_toArray, List.set_cons_zero, List.set_cons_succ])
    | (refine TxtBL.take (by rfl) (by rfl) ?_; apply Exists.intro; refine ⟨fun w1 hS1 => ?_, ?_⟩; (focus ((have g0 := hS1.1.c0); (have g1 := hS1.1.c1); go_simp; with_reducible rfl)); simp only [Act.put, List.setIfInBounds_toArray, List.set_cons_zero, List.set_cons_succ])
    | (refine TxtBL.takeE (by rfl) (by rfl) ?_; apply Exists.intro; refine ⟨fun w1 hS1 => ?_, ?_⟩; (focus ((have g0 := hS1.1.c0); (have g1 := hS1.1.c1); go_simp; with_reducible rfl)); simp only [Act.put, List.setIfInBounds_toArray, List.set_cons_zero, List.set_cons_succ]))
  refine TxtBL.call (f := 46) (args := #[.agg #[.int .i64 n, .slice AL l.length cl]]) (fun v => ∃ A c, v = Value.slice A x.length c) (fun v w' => OwnI w' W1.heap.size v x) (by rfl) (by rfl) ⟨_, none, 0, rfl⟩ (fun w1 hS1 hJ1 => by go_simp) (fun w1 hS1 hJ1 => ?_) ?_
  · refine (HLab w1 hS1.1.rp).mono ?_
    rintro e w' ⟨A', c', rfl, ho, _, _, hb⟩
    exact ⟨_, rfl, ⟨hS1.1.below hb, Nat.le_trans hS1.2 hb.size⟩, ⟨A', c', rfl⟩, OwnI.mono ho hS1.2⟩
  rintro v18 ⟨A18, c18, rfl⟩
  simp only [Act.put, List.setIfInBounds_toArray, List.set_cons_zero, List.set_cons_succ]
  repeat (first
    | (refine TxtBL.skip (by rfl) ?_; simp only [Act.put, List.setIfInBounds_toArray, List.set_cons_zero, List.set_cons_succ])
    | (refine TxtBL.take (by rfl) (by rfl) ?_; apply Exists.intro; refine ⟨fun w1 hS1 => ?_, ?_⟩; (focus ((have g0 := hS1.1.c0); (have g1 := hS1.1.c1); go_simp; with_reducible rfl)); simp only [Act.put, List.setIfInBounds_toArray, List.set_cons_zero, List.set_cons_succ])
    | (refine TxtBL.takeE (by rfl) (by rfl) ?_; apply Exists.intro; refine ⟨fun w1 hS1 => ?_, ?_⟩; (focus ((have g0 := hS1.1.c0); (have g1 := hS1.1.c1); go_simp; with_reducible rfl)); simp only [Act.put, List.setIfInBounds_toArray, List.set_cons_zero, List.set_cons_succ]))
  refine TxtBL.call (f := 47) (args := #[.agg #[.int .i64 n, .slice AL l.length cl]]) (fun v => ∃ A c, v = Value.slice A y.length c) (fun v w' => OwnI w' W1.heap.size (.slice A18 x.length c18) x ∧ OwnI w' W1.heap.size v y) (by rfl) (by rfl) ⟨_, none, 0, rfl⟩ (fun w1 hS1 hJ1 => by go_simp) (fun w1 hS1 hJ1 => ?_) ?_
  · refine (HRan w1 hS1.1.rp).mono ?_
    rintro e w' ⟨A', c', rfl, ho, _, _, hb⟩
    exact ⟨_, rfl, ⟨hS1.1.below hb, Nat.le_trans hS1.2 hb.size⟩, ⟨A', c', rfl⟩, OwnI.below hJ1 hb, OwnI.mono ho hS1.2⟩
  rintro v20 ⟨A20, c20, rfl⟩
  simp only [Act.put, List.setIfInBounds_toArray, List.set_cons_zero, List.set_cons_succ]
  repeat (first
    | (refine TxtBL.skip (by rfl) ?_; simp only [Act.put, List.setIfInBounds_toArray, List.set_cons_zero, List.set_cons_succ])
    | (refine TxtBL.take (by rfl) (by rfl) ?_; apply Exists.intro; refine ⟨fun w1 hS1 => ?_, ?_⟩; (focus (skip; go_simp; with_reducible rfl)); simp only [Act.put, List.setIfInBounds_toArray, List.set_cons_zero, List.set_cons_succ])
    | (refine TxtBL.takeE (by rfl) (by rfl) ?_; apply Exists.intro; refine ⟨fun w1 hS1 => ?_, ?_⟩; (focus (skip; go_simp; with_reducible rfl)); simp only [Act.put, List.setIfInBounds_toArray, List.set_cons_zero, List.set_cons_succ]))
  refine TxtBL.nil (fun W2 hS hJ => ?_)
  obtain ⟨hst2, hW12⟩ := hS
  obtain ⟨hox, hoy⟩ := hJ
  clear hst HLab HRan
  have hag := AnyO.own hox (by omega) hpW
  have hap := AnyO.own hoy (by omega) hpW
  have hnx : A18 = none → x = [] ∧ c18 = 0 := by
    obtain ⟨A9, c9, e9, _, h9⟩ := hox.form2
    injection e9 with e1 e2 e3
    subst e1 e3
    exact h9
  have hny : A20 = none → y = [] ∧ c20 = 0 := by
    obtain ⟨A9, c9, e9, _, h9⟩ := hoy.form2
    injection e9 with e1 e2 e3
    subst e1 e3
    exact h9
  have hrix := hox.ri
  have hriy := hoy.ri
  have Hnx := Lib.hid hnx; have Hny := Lib.hid hny
  have hGW : G < W2.heap.size := lt_of_cell hst2.c0
  have hpW2 : p < W2.heap.size := by omega
  clear hox hoy hnx hny
  go_upto_region 7 with (first
    | (at_builtin; refine wpList_appIs (by rfl) (.tmp 43) (.tmp 44) (by rfl) (W2.alloc (.cells #[] 3)) W2.heap.size _ [] A18 x c18 (own_empty W2) (hrix.below (newB _ _)) Hnx.out (by rfl) (by rfl) (by simp; omega) (by simp) ?_; intro v7 w7 ho7 hb7 hg7; (obtain ⟨A7, c7, rfl, _, _⟩ := OwnI.form2 ho7); simp only [List.nil_append] at ho7; simp only [List.nil_append]; clear hg7; have hb7' : Below W2.heap.size W2 w7 := ((Below.refl _ _).alloc (Nat.le_refl _) _).trans hb7; clear hb7; have hriy7 := hriy.below hb7'; clear hriy hrix)
    | (at_builtin; refine wpList_appIs (by rfl) (.tmp 46) (.tmp 47) (by rfl) (w7.alloc (.cells #[] 3)) w7.heap.size _ [] A20 y c20 (own_empty w7) (hriy7.below (newB _ _)) Hny.out (by rfl) (by rfl) (by simp; omega) (by simp) ?_; intro v8 w8 ho8 hb8 hg8; (obtain ⟨A8, c8, rfl, _, _⟩ := OwnI.form2 ho8); simp only [List.nil_append] at ho8; simp only [List.nil_append]; clear hg8; have hb8' : Below w7.heap.size w7 w8 := ((Below.refl _ _).alloc (Nat.le_refl _) _).trans hb8; clear hb8))
  have hst8 := (hst2.below hb7').below (hb8'.mono (Nat.le_refl _))
  have hb28 : Below W2.heap.size W2 w8 := hb7'.trans (hb8'.mono hb7'.size)
  have hck : CkS W0 p G n l AL cl W2.heap.size w7.heap.size (.slice A7 x.length c7) (.slice A8 y.length c8) [.slice X x1.length xc, .slice A18 x.length c18, .slice Y y1.length yc, .slice A20 y.length c20] x y w8 :=
    { st := hst8, o7 := OwnI.below ho7 hb8', o8 := ho8, hpB := hpW2, hGB := hGW, h78 := hb7'.size, f7 := fun g e => (World.ownsRow.lt ho7 g e).2
      any := fun v hv => by
        simp only [List.mem_cons, List.not_mem_nil, or_false] at hv
        rcases hv with rfl | rfl | rfl | rfl
        · exact (hanx.below hst2.hb).low.below hb28
        · exact hag.low.below hb28
        · exact (hany.below hst2.hb).low.below hb28
        · exact hap.low.below hb28 }
  obtain ⟨d0, d1⟩ : _ ∧ _ := ⟨hst8.c0, hst8.c1⟩
  clear hst2 hag hap hb7' ho7 hriy7 hb8' hanx hany hst8 ho8 hb28 hW12
  generalize W2.heap.size = B7 at *
  generalize w7.heap.size = B8 at *
  by_cases hn0 : 0 < n
  case' pos =>
    have hn0' : (0 : Int) < (n : Int) := by omega
    have hnn : (n : Int) ≤ 6 := by omega
    obtain ⟨g7, rfl, hg7, hg7s, hz7⟩ := OwnI.pos hck.o7 (by have := Hlx.out; omega)
    obtain ⟨g8, rfl, hg8, hg8s, hz8⟩ := OwnI.pos hck.o8 (by have := Hly.out; omega)
    go_wp2_with fail
    refine (n_any p n w8 hck.st.src (by omega) (by omega)).mono ?_
    rintro e w9 ⟨i, rfl, hi1, hi2, hs9, hgr⟩
    obtain ⟨i, rfl⟩ := Int.eq_ofNat_of_zero_le hi1
    have hix : i < x.length := by have := Hlx.out; omega
    have hiy : (i : Int) < (x.length : Int) := by omega
    have hc9 := hck.read hs9 hgr
    clear hck hs9 hgr d0 d1 hz7 hz8
    go_wp2_with fail
    refine (n_any p 3 w9 hc9.st.src (by omega) (by omega)).mono ?_
    rintro e w10 ⟨d, rfl, hd1, hd2, hs10, hgr⟩
    have hc10 := hc9.read hs10 hgr
    clear hc9 hs10 hgr
    obtain ⟨_, hgq, _, _, hz7⟩ := OwnI.pos hc10.o7 (by have := Hlx.out; omega)
    obtain rfl := addr_inj hgq
    have hz7' := hz7 i
    have hce := OwnI.cellAt hc10.o7 hix
    have hc11 := hc10.put7 rfl hix (1 + d)
    obtain ⟨d0, d1⟩ : _ ∧ _ := ⟨hc11.st.c0, hc11.st.c1⟩
    go_upto_region 9 with fail
    clear hc10 hce hz7 hz7'
    generalize w10.setCell ⟨g7, i, none⟩ (.int .i64 (1 + d)) = w11 at *
    go_wp2_with fail
    refine (n_any p n w11 hc11.st.src (by omega) (by omega)).mono ?_
    rintro e w12 ⟨j, rfl, hj1, hj2, hs9, hgr⟩
    obtain ⟨j, rfl⟩ := Int.eq_ofNat_of_zero_le hj1
    have hjx : j < y.length := by have := Hly.out; omega
    have hjy : (j : Int) < (y.length : Int) := by omega
    have hc12 := hc11.read hs9 hgr
    clear hc11 hs9 hgr d0 d1
    go_wp2_with fail
    refine (n_any p 5 w12 hc12.st.src (by omega) (by omega)).mono ?_
    rintro e w13 ⟨d', rfl, hd3, hd4, hs10, hgr⟩
    have hc13 := hc12.read hs10 hgr
    clear hc12 hs10 hgr
    obtain ⟨_, hgq, _, _, hz8⟩ := OwnI.pos hc13.o8 (by have := Hly.out; omega)
    obtain rfl := addr_inj hgq
    have hz8' := hz8 j
    have hce := OwnI.cellAt hc13.o8 hjx
    have hcq := hc13.put8 rfl hjx (d' - 1)
    obtain ⟨d0, d1⟩ : _ ∧ _ := ⟨hcq.st.c0, hcq.st.c1⟩
    go_upto_region 10 with fail
    clear hc13 hce hz8 hz8' hgq
    generalize w13.setCell ⟨g8, j, none⟩ (.int .i64 (d' - 1)) = wq at *
    have hxo : (x.set i (1 + d)).length ≤ 6 := by rw [List.length_set]; exact hx6
    have hyo : (y.set j (d' - 1)).length ≤ 6 := by rw [List.length_set]; exact hy6
    generalize x.set i (1 + d) = xo at *
    generalize y.set j (d' - 1) = yo at *
    generalize (some ⟨g7, 0, none⟩ : Option Addr) = A7 at *
    generalize (some ⟨g8, 0, none⟩ : Option Addr) = A8 at *
  case' neg =>
    have hn0' : decide ((0 : Int) < (n : Int)) = false := by rw [decide_eq_false_iff_not]; omega
    have hcq := hck
    go_upto_region 10 with fail
    clear hck
    obtain ⟨wq, hwq⟩ : ∃ wq, wq = w8 := ⟨_, rfl⟩
    subst hwq
    have hxo : x.length ≤ 6 := hx6
    have hyo : y.length ≤ 6 := hy6
    obtain ⟨xo, hxx⟩ : ∃ xo, x = xo := ⟨_, rfl⟩
    obtain ⟨yo, hyy⟩ : ∃ yo, y = yo := ⟨_, rfl⟩
    have hcq2 := hcq
    rw [show CkS W0 p G n l AL cl B7 B8 (.slice A7 x.length c7) (.slice A8 y.length c8) [.slice X x1.length xc, .slice A18 x.length c18, .slice Y y1.length yc, .slice A20 y.length c20] x y wq = CkS W0 p G n l AL cl B7 B8 (.slice A7 x.length c7) (.slice A8 y.length c8) [.slice X x1.length xc, .slice A18 x.length c18, .slice Y y1.length yc, .slice A20 y.length c20] xo yo wq by rw [← hxx, ← hyy]] at hcq2
    clear hcq
    have hcq := hcq2
    have hxo : xo.length ≤ 6 := by rw [← hxx]; exact hx6
    have hyo : yo.length ≤ 6 := by rw [← hyy]; exact hy6
    clear hcq2 hxx hyy
  all_goals
    have hpB8 : p < B8 := by have := hcq.h78; omega
    have hvs : ∀ v ∈ ([.slice X x1.length xc, .slice A18 x.length c18, .slice A7 x.length c7, .slice Y y1.length yc, .slice A20 y.length c20, .slice A8 y.length c8] : List Value), AnyO p wq v := fun v hv => by
      simp only [List.mem_cons, List.not_mem_nil, or_false] at hv
      rcases hv with rfl | rfl | rfl | rfl | rfl | rfl
      · exact (hcq.any _ (by simp)).toO
      · exact (hcq.any _ (by simp)).toO
      · exact AnyO.own hcq.o7 (by omega) hpW2
      · exact (hcq.any _ (by simp)).toO
      · exact (hcq.any _ (by simp)).toO
      · exact AnyO.own hcq.o8 (by omega) hpB8
    obtain ⟨vs, hvs'⟩ : ∃ vs : List Value, vs = [.slice X x1.length xc, .slice A18 x.length c18, .slice A7 x.length c7, .slice Y y1.length yc, .slice A20 y.length c20, .slice A8 y.length c8] := ⟨_, rfl⟩
    rw [← hvs'] at hvs
    have hstq := hcq.st
    clear hcq
    refine wp_region_textB [4, 5] (fun w' => GSt W0 p G n l AL cl w' ∧ ∀ v ∈ vs, AnyO p w' v) (fun _ => True) (by kernel_rfl) (by kernel_rfl) (by kernel_rfl) ⟨hstq.below (Below.refl _ _).drew, fun v hv => (hvs v hv).below (Below.refl _ _).drew⟩ trivial ?_
    repeat (first
      | (refine TxtBL.skip (by rfl) ?_; simp only [Act.put, List.setIfInBounds_toArray, List.set_cons_zero, List.set_cons_succ])
      | (refine TxtBL.take (by rfl) (by rfl) ?_; apply Exists.intro; refine ⟨fun w1 hS1 => ?_, ?_⟩; (focus ((have g0 := hS1.1.c0); (have g1 := hS1.1.c1); (have g2 := (hS1.1.hb.cell (lt_of_cell b0)).trans b0); (have g3 := (hS1.1.hb.cell (lt_of_cell b1)).trans b1); go_simp; with_reducible rfl)); simp only [Act.put, List.setIfInBounds_toArray, List.set_cons_zero, List.set_cons_succ])
      | (refine TxtBL.takeE (by rfl) (by rfl) ?_; apply Exists.intro; refine ⟨fun w1 hS1 => ?_, ?_⟩; (focus ((have g0 := hS1.1.c0); (have g1 := hS1.1.c1); (have g2 := (hS1.1.hb.cell (lt_of_cell b0)).trans b0); (have g3 := (hS1.1.hb.cell (lt_of_cell b1)).trans b1); go_simp; with_reducible rfl)); simp only [Act.put, List.setIfInBounds_toArray, List.set_cons_zero, List.set_cons_succ]))
    refine TxtBL.call (f := 48) (args := #[.pointer (some ⟨p, 0, none⟩), .agg #[.int .i64 n, .slice AL l.length cl]]) (fun v => ∃ N A k c, v = Value.agg #[.int .i64 N, .slice A k c]) (fun v w' => ∃ N l' A' c', v = Value.agg #[.int .i64 N, .slice A' l'.length c'] ∧ RP w' A' l' ∧ l'.length ≤ 100000) (by rfl) (by rfl) ⟨_, 0, none, 0, 0, rfl⟩ (fun w1 hS1 hJ1 => by go_simp) (fun w1 hS1 hJ1 => ?_) ?_
    · refine (spoilt_any p AL n l cl w1 hS1.1.src hS1.1.rp HAn.out (by omega)).mono ?_
      rintro e w' ⟨N', l', A', c', rfl, hl', hr', _, hs, hg⟩
      exact ⟨_, rfl, ⟨hS1.1.grown hs hg, fun v hv => (hS1.2 v hv).grown hg⟩, ⟨_, _, _, _, rfl⟩, N', l', A', c', rfl, hr', by omega⟩
    rintro v74 ⟨N', A', k', c', rfl⟩
    simp only [Act.put, List.setIfInBounds_toArray, List.set_cons_zero, List.set_cons_succ]
    refine TxtBL.value (fun v => ∃ g, v = Value.slice (some ⟨g, 0, none⟩) 3 3) (fun v w' => ∃ g, v = Value.slice (some ⟨g, 0, none⟩) 3 3 ∧ Blk w' g 27 #[.int .i64 N0, .slice A0 l0.length c0, .int .i64 n, .slice AL l.length cl, .int .i64 N', .slice A' k' c'] ∧ ∃ l', l'.length = k' ∧ RP w' A' l' ∧ l'.length ≤ 100000) (by rfl) (by rfl) ⟨_, 0, rfl⟩ (fun w1 hS1 hJ1 => ?_) ?_
    · obtain ⟨N9, l', A9, c9, e9, hr9, hl9⟩ := hJ1
      injection e9 with e9
      injection e9 with e9
      injection e9 with e91 e92
      injection e91 with _ e91
      injection e92 with e92 _
      injection e92 with e92 e93 e94
      subst e91 e92 e93 e94
      exact ⟨.slice (some ⟨w1.heap.size, 0, none⟩) 3 3, w1.alloc (.cells #[.int .i64 N0, .slice A0 l0.length c0, .int .i64 n, .slice AL l.length cl, .int .i64 N', .slice A' l'.length c'] 27), by go_simp, ⟨hS1.1.below (newB _ _), fun v hv => (hS1.2 v hv).below (newB _ _)⟩, ⟨_, rfl⟩, _, rfl, Blk.new _ _ _, l', rfl, hr9.below (newB _ _), hl9⟩
    rintro v75 ⟨g, rfl⟩
    simp only [Act.put, List.setIfInBounds_toArray, List.set_cons_zero, List.set_cons_succ]
    repeat (first
      | (refine TxtBL.skip (by rfl) ?_; simp only [Act.put, List.setIfInBounds_toArray, List.set_cons_zero, List.set_cons_succ])
      | (refine TxtBL.take (by rfl) (by rfl) ?_; apply Exists.intro; refine ⟨fun w1 hS1 => ?_, ?_⟩; (focus (skip; go_simp; with_reducible rfl)); simp only [Act.put, List.setIfInBounds_toArray, List.set_cons_zero, List.set_cons_succ])
      | (refine TxtBL.takeE (by rfl) (by rfl) ?_; apply Exists.intro; refine ⟨fun w1 hS1 => ?_, ?_⟩; (focus (skip; go_simp; with_reducible rfl)); simp only [Act.put, List.setIfInBounds_toArray, List.set_cons_zero, List.set_cons_succ]))
    refine TxtBL.nil (fun W5 hS hJ => ?_)
    obtain ⟨g', hg', hblk, l', rfl, hr', hl'⟩ := hJ
    injection hg' with hg' _ _
    obtain rfl := addr_inj hg'
    obtain ⟨hst5, hv5⟩ := hS
    have hEl : ∀ k, k < 3 → GrAt g k W5 := fun k hk => by
      match k, hk with
      | 0, _ => exact ⟨N0, A0, l0, c0, by rw [hblk.cell]; rfl, by rw [hblk.cell]; rfl, hrR.below hst5.hb, hl60⟩
      | 1, _ => exact ⟨n, AL, l, cl, by rw [hblk.cell]; rfl, by rw [hblk.cell]; rfl, hst5.rp, by omega⟩
      | 2, _ => exact ⟨N', A', l', c', by rw [hblk.cell]; rfl, by rw [hblk.cell]; rfl, hr', hl'⟩
    have hbW : Below w.heap.size w W5 := hb0.trans (hst5.hb.mono hb0.size)
    have hT5 := hT0.below hst5.hb
    clear hstq hvs hblk hr' hl' hst5 hg'
    go_wp2_with fail
    go_loopw [77] (fun i wr => ∃ k : Nat, k ≤ 3 ∧ i = .int .i64 k ∧ Below W5.heap.size W5 wr) (fun i _ => 3 - (intOf i).toNat)
    case atStart => exact ⟨0, Nat.zero_le _, rfl, Below.refl _ _⟩
    case round =>
      obtain ⟨k, hk, rfl, hbl⟩ := hrel
      by_cases hk3 : k < 3
      case neg =>
        go_wp2_with fail
        refine (awake12_any wr (hT5.below hbl)).mono ?_
        rintro e w9 ⟨rfl, hb9⟩
        go_wp2_with fail
        go_ret
        exact ⟨rfl, hbW.trans ((endB hbl hb9).mono hbW.size)⟩
      case pos =>
      obtain ⟨Nh, Ah, lh, ch, e0, e1, hrh, hlh⟩ := (hEl k hk3).below hbl
      have hk1 : (k : Int) < 3 := by omega
      have hk0 : (0 : Int) ≤ (k : Int) := by omega
      obtain ⟨W6, hW6, q0, q1, hb6, _⟩ := boxed wr 27 (.int .i64 Nh) (.slice Ah lh.length ch)
      have hv6 := fun v hv => ((hv5 v hv).below hbl).below hb6
      have hrh6 := hrh.below hb6
      have hT6 := (hT5.below hbl).below hb6
      have hb56 := endB hbl hb6
      go_upto_region 13 with fail
      clear hW6 e0 e1 hrh hb6
      rw [hvs'] at hv6
      obtain ⟨W7, hW7, hX, hb7⟩ := lsAt_new 22 (hv6 (.slice X x1.length xc) (by simp)) (hv6 (.slice A18 x.length c18) (by simp)) (hv6 (.slice A7 x.length c7) (by simp))
      rw [← hvs'] at hv6
      have hv7 := fun v hv => (hv6 v hv).below hb7
      have hrh7 := hrh6.below hb7
      have hT7 := hT6.below hb7
      have hb57 := endB hb56 hb7
      have p0 := (hb7.cell (lt_of_cell q0)).trans q0
      have p1 := (hb7.cell (lt_of_cell q1)).trans q1
      go_upto_region 14 with fail
      clear hW7 q0 q1 hv6 hrh6 hT6 hb7 hb56 hT5
      generalize W6.heap.size = gx at *
      generalize wr.heap.size = gh at *
      go_loopw [86] (fun i wr => ∃ j : Nat, j ≤ 3 ∧ i = .int .i64 j ∧ Below W7.heap.size W7 wr) (fun i _ => 3 - (intOf i).toNat)
      case atStart => exact ⟨0, Nat.zero_le _, rfl, Below.refl _ _⟩
      case round =>
        obtain ⟨j, hj, rfl, hbj⟩ := hrel
        by_cases hj3 : j < 3
        case neg =>
          go_wp2_with fail
          go_roundw
          case rel => exact ⟨k + 1, by omega, by go_num, endB hb57 hbj⟩
          case measure => simp [intOf]; omega
        case pos =>
        obtain ⟨AX, z, cz, e0, hrz, hlz⟩ := (hX j hj3).below hbj
        have hj1 : (j : Int) < 3 := by omega
        have hj0 : (0 : Int) ≤ (j : Int) := by omega
        have hv8 := fun v hv => (hv7 v hv).below hbj
        rw [hvs'] at hv8
        obtain ⟨W9, hW9, hY, hb9⟩ := lsAt_new 22 (hv8 (.slice Y y1.length yc) (by simp)) (hv8 (.slice A20 y.length c20) (by simp)) (hv8 (.slice A8 y.length c8) (by simp))
        rw [← hvs'] at hv8
        have hrz9 := hrz.below hb9
        have hrh9 := (hrh7.below hbj).below hb9
        have hT9 := (hT7.below hbj).below hb9
        have hb79 := endB hbj hb9
        have r0 := (hb79.cell (lt_of_cell p0)).trans p0
        have r1 := (hb79.cell (lt_of_cell p1)).trans p1
        go_upto_region 17 with fail
        clear hW9 e0 hrz hv8 hb9
        generalize wr.heap.size = gy at *
        go_loopw [95] (fun i wr => ∃ m : Nat, m ≤ 3 ∧ i = .int .i64 m ∧ Below W9.heap.size W9 wr) (fun i _ => 3 - (intOf i).toNat)
        case atStart => exact ⟨0, Nat.zero_le _, rfl, Below.refl _ _⟩
        case round =>
          obtain ⟨m, hm, rfl, hbm⟩ := hrel
          by_cases hm3 : m < 3
          case neg =>
            go_wp2_with fail
            go_roundw
            case rel => exact ⟨j + 1, by omega, by go_num, endB hb79 hbm⟩
            case measure => simp [intOf]; omega
          case pos =>
          obtain ⟨AY, u, cu, e0, hru, hlu⟩ := (hY m hm3).below hbm
          have hm1 : (m : Int) < 3 := by omega
          have hm0 : (0 : Int) ≤ (m : Int) := by omega
          obtain ⟨W10, hW10⟩ : ∃ W10, W10 = wr := ⟨_, rfl⟩
          subst hW10
          have s0 := (hbm.cell (lt_of_cell r0)).trans r0
          have s1 := (hbm.cell (lt_of_cell r1)).trans r1
          have hrh10 := hrh9.below hbm
          have hrz10 := hrz9.below hbm
          have hT10 := hT9.below hbm
          go_upto_region 19 with fail
          refine wp_region_textB [3, 7] (SB W10) (RIs []) (by kernel_rfl) (by kernel_rfl) (by kernel_rfl) (Below.refl _ _).drew (RIs.nil _) ?_
          repeat (first
            | (refine TxtBL.skip (by rfl) ?_; simp only [Act.put, List.setIfInBounds_toArray, List.set_cons_zero, List.set_cons_succ])
            | (refine TxtBL.take (by rfl) (by rfl) ?_; apply Exists.intro; refine ⟨fun w1 hS1 => ?_, ?_⟩; (focus ((have g0 := (hS1.cell (lt_of_cell s0)).trans s0); (have g1 := (hS1.cell (lt_of_cell s1)).trans s1); go_simp; with_reducible rfl)); simp only [Act.put, List.setIfInBounds_toArray, List.set_cons_zero, List.set_cons_succ])
            | (refine TxtBL.takeE (by rfl) (by rfl) ?_; apply Exists.intro; refine ⟨fun w1 hS1 => ?_, ?_⟩; (focus ((have g0 := (hS1.cell (lt_of_cell s0)).trans s0); (have g1 := (hS1.cell (lt_of_cell s1)).trans s1); go_simp; with_reducible rfl)); simp only [Act.put, List.setIfInBounds_toArray, List.set_cons_zero, List.set_cons_succ]))
          refine TxtBL.callB (by rfl) (by rfl) ?_
          apply Exists.intro; apply Exists.intro
          refine ⟨fun w1 hS1 => ?_, ?_⟩
          focus (go_simp; first | with_reducible rfl | exact ⟨rfl, rfl⟩)
          refine ⟨.int .i64 (chkE Nh lh z u), fun w1 hS1 hJ1 => gCheck_any _ _ _ _ _ z _ _ u _ w1 (hrh10.below hS1) hlh (hrz10.below hS1) hlz (hru.below hS1) hlu (hT10.below hS1), ?_⟩
          simp only [Act.put, List.setIfInBounds_toArray, List.set_cons_zero, List.set_cons_succ]
          repeat (first
            | (refine TxtBL.skip (by rfl) ?_; simp only [Act.put, List.setIfInBounds_toArray, List.set_cons_zero, List.set_cons_succ])
            | (refine TxtBL.take (by rfl) (by rfl) ?_; apply Exists.intro; refine ⟨fun w1 hS1 => ?_, ?_⟩; (focus ((have g0 := (hS1.cell (lt_of_cell s0)).trans s0); (have g1 := (hS1.cell (lt_of_cell s1)).trans s1); go_simp; with_reducible rfl)); simp only [Act.put, List.setIfInBounds_toArray, List.set_cons_zero, List.set_cons_succ])
            | (refine TxtBL.takeE (by rfl) (by rfl) ?_; apply Exists.intro; refine ⟨fun w1 hS1 => ?_, ?_⟩; (focus ((have g0 := (hS1.cell (lt_of_cell s0)).trans s0); (have g1 := (hS1.cell (lt_of_cell s1)).trans s1); go_simp; with_reducible rfl)); simp only [Act.put, List.setIfInBounds_toArray, List.set_cons_zero, List.set_cons_succ]))
          refine TxtBL.callB (by rfl) (by rfl) ?_
          apply Exists.intro; apply Exists.intro
          refine ⟨fun w1 hS1 => ?_, ?_⟩
          focus (go_simp; first | with_reducible rfl | exact ⟨rfl, rfl⟩)
          refine ⟨.int .i64 (chkE Nh lh z u), fun w1 hS1 hJ1 => r12Check_any _ _ _ _ _ z _ _ u _ w1 (hrh10.below hS1) hlh (hrz10.below hS1) hlz (hru.below hS1) hlu (hT10.below hS1), ?_⟩
          simp only [Act.put, List.setIfInBounds_toArray, List.set_cons_zero, List.set_cons_succ]
          repeat (first
            | (refine TxtBL.skip (by rfl) ?_; simp only [Act.put, List.setIfInBounds_toArray, List.set_cons_zero, List.set_cons_succ])
            | (refine TxtBL.take (by rfl) (by rfl) ?_; apply Exists.intro; refine ⟨fun w1 hS1 => ?_, ?_⟩; (focus (skip; go_simp; with_reducible rfl)); simp only [Act.put, List.setIfInBounds_toArray, List.set_cons_zero, List.set_cons_succ])
            | (refine TxtBL.takeE (by rfl) (by rfl) ?_; apply Exists.intro; refine ⟨fun w1 hS1 => ?_, ?_⟩; (focus (skip; go_simp; with_reducible rfl)); simp only [Act.put, List.setIfInBounds_toArray, List.set_cons_zero, List.set_cons_succ]))
          refine TxtBL.nil (fun W11 hS11 _ => ?_)
          clear s0 s1 e0
          go_wp2_with fail
          go_roundw
          case rel => exact ⟨m + 1, by omega, by go_num, endB hbm hS11⟩
          case measure => simp [intOf]; omega
end Go.Proofs.YtiljbfeipfdmdaaDoor
