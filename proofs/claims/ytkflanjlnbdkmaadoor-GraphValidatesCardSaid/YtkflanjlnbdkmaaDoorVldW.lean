/- The walk of the statement GraphValidates. -/
import Derived.Test.YtkflanjlnbdkmaaDoorA10
import Derived.Test.YtkflanjlnbdkmaaDoorGs10
import Derived.Test.YtkflanjlnbdkmaaDoorRq10
import Derived.Test.YtkflanjlnbdkmaaDoorRv10
import Derived.Test.YtkflanjlnbdkmaaDoorSpo
import Derived.Test.YtkflanjlnbdkmaaDoorGenM
import Derived.Test.YtkflanjlnbdkmaaDoorLov
import Derived.Test.YtkflanjlnbdkmaaDoorTxtX
namespace Go.Proofs.YtkflanjlnbdkmaaDoor
open Go.ChangeShapes Go.WideShapes Go.ChangeAt Go.RowKit

theorem nGl_v {n : Nat} {l : List (Int × Int)} (h : Vld n l) : nGl n l = l := by unfold nGl; rw [h.valE]; rfl
set_option maxRecDepth 100000 in
set_option maxHeartbeats 2000000 in
/-- Attackers, for any graph -/
theorem gAttackersN_any (A : Option Addr) (N : Int) (l : List (Int × Int)) (c : Nat) (i : Int) (w : World) (hr : RP w A l) (hlen : l.length ≤ 100000) (hT : Tab w) :
    Calls Tryd.prog 29 #[.agg #[.int .i64 N, .slice A l.length c], .int .i64 i] w (RetI (attackersL (nGl N l) i) w) := by
  obtain ⟨n, hn, hv⟩ := vld_proper N l hlen
  have hgr : nGl n (revL (nGl N l)) = revL (nGl N l) := nGl_v (revL_vld hv)
  have hat := attacked_revL hv i
  have hll := nGl_len (N := N) hlen
  have hrl := revL_length (nGl N l)
  have hl1 : (revL (nGl N l)).length ≤ 100000 := by omega
  have Hgr := Lib.hid hgr; have Hat := Lib.hid hat; have Hn := Lib.hid hn
  clear hgr hat hrl hn
  go_enter Tryd.func29, Tryd.ntmps29
  go_wp2_with fail
  obtain ⟨W0, hW, c0, c1, hb0, hlt0⟩ := boxed w 24 (.int .i64 N) (.slice A l.length c)
  rw [hW]
  refine (gReverse_any A N l c W0 (hr.below hb0) hlen).mono ?_
  rintro e w1 ⟨A1, c1', rfl, hr1, _, hb1⟩
  rw [Hn.out]
  have hB1 := endB hb0 hb1
  have hTT := hT.below hB1
  clear hW c0 c1
  generalize nGl N l = L at *
  go_wp2_with fail
  refine (gAttacked_any A1 n (revL L) c1' i w1 hr1 hl1 hTT).mono ?_
  rintro e w2 ⟨A2, c2, rfl, ho, hri, hnn, hb2⟩
  rw [Hgr.out, Hat.out] at ho hri hnn ⊢
  go_wp2_with fail
  go_ret
  exact ⟨A2, c2, rfl, ho.mono hB1.size, hri, hnn, endB hB1 hb2⟩
theorem RP.pre {w : World} {A : Option Addr} {l : List (Int × Int)} (h : RP w A l) (m : Nat) : RP w A (l.take m) := fun k hk => by
  have hk' : k < l.length := by rw [List.length_take] at hk; omega
  have e : (l.take m).getD k (0, 0) = l.getD k (0, 0) := by
    simp only [List.getD]
    rw [List.getElem?_take_of_lt (by rw [List.length_take] at hk; omega)]
  rw [e]
  exact h k hk'
theorem new_ri8 (w : World) (a b c d e f g h : Int) : RI (w.alloc (.cells #[.int .i64 a, .int .i64 b, .int .i64 c, .int .i64 d, .int .i64 e, .int .i64 f, .int .i64 g, .int .i64 h] 3)) (some ⟨w.heap.size, 0, none⟩) [a, b, c, d, e, f, g, h] := by
  intro k hk
  refine ⟨w.heap.size, 0, rfl, ?_⟩
  rw [(Blk.new w 3 _).cell]
  match k, hk with
  | 0, _ => rfl
  | 1, _ => rfl
  | 2, _ => rfl
  | 3, _ => rfl
  | 4, _ => rfl
  | 5, _ => rfl
  | 6, _ => rfl
  | 7, _ => rfl
/-- a graph in a box -/
structure OneG (G : Nat) (N : Int) (l : List (Int × Int)) (A : Option Addr) (c : Nat) (w : World) : Prop where
  c0 : w.cell? ⟨G, 0, none⟩ = some (.int .i64 N)
  c1 : w.cell? ⟨G, 1, none⟩ = some (.slice A l.length c)
  rp : RP w A l
theorem OneG.below {G : Nat} {N : Int} {l : List (Int × Int)} {A : Option Addr} {c : Nat} {w w' : World} (h : OneG G N l A c w) (hb : Below w.heap.size w w') : OneG G N l A c w' :=
  ⟨(hb.cell (lt_of_cell h.c0)).trans h.c0, (hb.cell (lt_of_cell h.c1)).trans h.c1, h.rp.below hb⟩

set_option maxRecDepth 100000 in
set_option maxHeartbeats 8000000 in
theorem gval_law_any (A0 : Option Addr) (N0 : Int) (l0 : List (Int × Int)) (c0 : Nat) (A1 : Option Addr) (N1 : Int) (l1 : List (Int × Int)) (c1 : Nat) (xi xk : Int) (A : Option Addr) (arg : List Int) (c : Nat) (w : World)
    (_hl0 : l0.length ≤ 9223372036854775807) (hr0 : RP w A0 l0) (h0n : A0 = none → l0 = [] ∧ c0 = 0) (hlc0 : l0.length ≤ c0) (hc0 : c0 ≤ 9223372036854775807)
    (_hl1 : l1.length ≤ 9223372036854775807) (hr1 : RP w A1 l1) (_h1n : A1 = none → l1 = [] ∧ c1 = 0)
    (hlc : arg.length ≤ c) (hc : c ≤ 9223372036854775807) (hr : RI w A arg) (hx : ∀ x ∈ arg, -9223372036854775808 ≤ x ∧ x ≤ 9223372036854775807) (hT : Tab w) :
    Calls Tryd.prog 7 #[.agg #[.int .i64 N0, .slice A0 l0.length c0], .agg #[.int .i64 N1, .slice A1 l1.length c1], .int .i64 xi, .int .i64 xk, .slice A arg.length c] w (RetB (.bool true) w) := by
  go_enter Tryd.func7, Tryd.ntmps7
  go_upto_region 1 with fail
  obtain ⟨W0, hW, b0, b1, hb0⟩ : ∃ W0, (w.alloc (.cells #[.int .i64 N0, .slice A0 l0.length c0] 24)).alloc (.cells #[.int .i64 N1, .slice A1 l1.length c1] 24) = W0 ∧ Blk W0 w.heap.size 24 #[.int .i64 N0, .slice A0 l0.length c0] ∧ Blk W0 (w.heap.size + 1) 24 #[.int .i64 N1, .slice A1 l1.length c1] ∧ Below w.heap.size w W0 := by
    obtain ⟨W0, h1, h2, h3, h4, _⟩ := boxed2 w 24 24 (.int .i64 N0) (.slice A0 l0.length c0) (.int .i64 N1) (.slice A1 l1.length c1)
    exact ⟨W0, h1, h2, h3, h4⟩
  rw [hW]
  clear hW
  obtain ⟨p0, p1, -, -⟩ := b0.two
  obtain ⟨q0, q1, -, -⟩ := b1.two
  by_cases h60 : 100 < l0.length
  · have hd : decide ((100 : Int) < (l0.length : Int)) = true := by rw [decide_eq_true_eq]; omega
    have H60 := Lib.hid h60; clear h60
    go_wp2_with fail
    go_ret
    exact ⟨rfl, hb0⟩
  have hd0 : decide ((100 : Int) < (l0.length : Int)) = false := by rw [decide_eq_false_iff_not]; omega
  by_cases h61 : 100 < l1.length
  · have hd : decide ((100 : Int) < (l1.length : Int)) = true := by rw [decide_eq_true_eq]; omega
    have H60 := Lib.hid h60; have H61 := Lib.hid h61; clear h60 h61
    go_wp2_with fail
    go_ret
    exact ⟨rfl, hb0⟩
  have hd1 : decide ((100 : Int) < (l1.length : Int)) = false := by rw [decide_eq_false_iff_not]; omega
  have hl60 : l0.length ≤ 100000 := by omega
  have hl61 : l1.length ≤ 100000 := by omega
  clear h60 h61
  have hr0' := hr0.below hb0
  have hr1' := hr1.below hb0
  have hT0 := hT.below hb0
  go_wp2_with fail
  refine (new_any A arg c W0 hlc hc (hr.below hb0) hx).mono ?_
  rintro e w1 ⟨p, rfl, hp, hs1, hb1⟩
  have hp1 := hs1.lt
  clear hr hx hr0 hr1 hT hd0 hd1
  go_wp2_with fail
  refine (graph2_any p 8 w1 hs1 (by omega)).mono ?_
  rintro e w2 ⟨n, l, AL, cl, rfl, hN, hv, hrp, hloc, hs2, hg2, hAn⟩
  have hb2 : Below W0.heap.size W0 w2 := hb1.trans (below_of_grownBy hg2 hp hb1.size)
  clear hs1 hb1 hg2
  go_upto_region 5 with fail
  obtain ⟨W1, hW, k0, k1, hbx, hlt1⟩ := boxed w2 24 (.int .i64 n) (.slice AL l.length cl)
  rw [hW]
  clear hW
  have hst := GSt.start hp hp1 hb2 hs2 hrp hloc hbx k0 k1
  have hlen := hv.1.2.1
  have HV := Lib.hid hv; have HAn := Lib.hid hAn; have H0n := Lib.hid h0n
  clear hs2 hrp hloc hbx k0 k1 hb2 hp1 hv hAn h0n
  generalize w2.heap.size = G at *
  have hbG := hst.hb
  obtain ⟨Nc, hNc⟩ : ∃ M, min N0 ((6 : Nat) : Int) = M := ⟨_, rfl⟩
  obtain ⟨lc, hlcE⟩ : ∃ L, l0.take 60 = L := ⟨_, rfl⟩
  have hlcl : lc.length ≤ 100000 := by rw [← hlcE, List.length_take]; omega
  have hcut : ∀ w1, Calls Tryd.prog 31 #[.agg #[.int .i64 N0, .slice A0 l0.length c0], .int .i64 6] w1 (RetCut A0 Nc lc w1) := fun w1 => by
    have h := cut_any A0 N0 l0 c0 6 w1 hl60 hlc0 hc0 H0n.out
    rw [hNc, hlcE] at h
    exact h
  have hrc : RP W0 A0 lc := by rw [← hlcE]; exact hr0'.pre 60
  have Hcut := Lib.hid hcut
  clear hcut hNc hlcE
  refine wp_region_textB [2, 6, 8] (fun w' => GSt W0 p G n l AL cl w' ∧ W1.heap.size ≤ w'.heap.size) (fun _ => True) (by kernel_rfl) (by kernel_rfl) (by kernel_rfl) ⟨hst.below (Below.refl _ _).drew, Nat.le_refl _⟩ trivial ?_
  repeat (first
    | (refine TxtBL.skip (by rfl) ?_; simp only [Act.put, List.setIfInBounds_toArray, List.set_cons_zero, List.set_cons_succ])
    | (refine TxtBL.take (by rfl) (by rfl) ?_; apply Exists.intro; refine ⟨fun w1 hS1 => ?_, ?_⟩; (focus ((have g0 := hS1.1.c0); (have g1 := hS1.1.c1); (have g2 := (hS1.1.hb.cell (lt_of_cell p0)).trans p0); (have g3 := (hS1.1.hb.cell (lt_of_cell p1)).trans p1); (have g4 := (hS1.1.hb.cell (lt_of_cell q0)).trans q0); (have g5 := (hS1.1.hb.cell (lt_of_cell q1)).trans q1); go_simp; with_reducible rfl)); simp only [Act.put, List.setIfInBounds_toArray, List.set_cons_zero, List.set_cons_succ])
    | (refine TxtBL.takeE (by rfl) (by rfl) ?_; apply Exists.intro; refine ⟨fun w1 hS1 => ?_, ?_⟩; (focus ((have g0 := hS1.1.c0); (have g1 := hS1.1.c1); (have g2 := (hS1.1.hb.cell (lt_of_cell p0)).trans p0); (have g3 := (hS1.1.hb.cell (lt_of_cell p1)).trans p1); (have g4 := (hS1.1.hb.cell (lt_of_cell q0)).trans q0); (have g5 := (hS1.1.hb.cell (lt_of_cell q1)).trans q1); go_simp; with_reducible rfl)); simp only [Act.put, List.setIfInBounds_toArray, List.set_cons_zero, List.set_cons_succ]))
  refine TxtBL.call (f := 31) (args := #[.agg #[.int .i64 N0, .slice A0 l0.length c0], .int .i64 6]) (fun v => ∃ cc, v = .agg #[.int .i64 Nc, .slice A0 lc.length cc]) (fun _ _ => True) (by rfl) (by rfl) ⟨_, 0, rfl⟩ (fun w1 hS1 hJ1 => by go_simp) (fun w1 hS1 hJ1 => ?_) ?_
  · refine (Hcut.out w1).mono ?_
    rintro e w' ⟨cc, rfl, -, -, hbc⟩
    exact ⟨_, rfl, ⟨hS1.1.below hbc, Nat.le_trans hS1.2 hbc.size⟩, ⟨cc, rfl⟩, trivial⟩
  rintro v ⟨cc, rfl⟩
  simp only [Act.put, List.setIfInBounds_toArray, List.set_cons_zero, List.set_cons_succ]
  repeat (first
    | (refine TxtBL.skip (by rfl) ?_; simp only [Act.put, List.setIfInBounds_toArray, List.set_cons_zero, List.set_cons_succ])
    | (refine TxtBL.take (by rfl) (by rfl) ?_; apply Exists.intro; refine ⟨fun w1 hS1 => ?_, ?_⟩; (focus ((have g0 := hS1.1.c0); (have g1 := hS1.1.c1); (have g2 := (hS1.1.hb.cell (lt_of_cell p0)).trans p0); (have g3 := (hS1.1.hb.cell (lt_of_cell p1)).trans p1); (have g4 := (hS1.1.hb.cell (lt_of_cell q0)).trans q0); (have g5 := (hS1.1.hb.cell (lt_of_cell q1)).trans q1); go_simp; with_reducible rfl)); simp only [Act.put, List.setIfInBounds_toArray, List.set_cons_zero, List.set_cons_succ])
    | (refine TxtBL.takeE (by rfl) (by rfl) ?_; apply Exists.intro; refine ⟨fun w1 hS1 => ?_, ?_⟩; (focus ((have g0 := hS1.1.c0); (have g1 := hS1.1.c1); (have g2 := (hS1.1.hb.cell (lt_of_cell p0)).trans p0); (have g3 := (hS1.1.hb.cell (lt_of_cell p1)).trans p1); (have g4 := (hS1.1.hb.cell (lt_of_cell q0)).trans q0); (have g5 := (hS1.1.hb.cell (lt_of_cell q1)).trans q1); go_simp; with_reducible rfl)); simp only [Act.put, List.setIfInBounds_toArray, List.set_cons_zero, List.set_cons_succ]))
  refine TxtBL.call (f := 13) (args := #[.pointer (some ⟨p, 0, none⟩), .agg #[.int .i64 (n : Int), .slice AL l.length cl]]) (fun v => ∃ N2 A2 k2 c2, v = Value.agg #[.int .i64 N2, .slice A2 k2 c2]) (fun v w' => ∃ N2 l2 A2 c2, v = Value.agg #[.int .i64 N2, .slice A2 l2.length c2] ∧ l2.length ≤ 100000 ∧ RP w' A2 l2) (by rfl) (by rfl) ⟨_, 0, none, 0, 0, rfl⟩ (fun w1 hS1 hJ1 => by go_simp) (fun w1 hS1 hJ1 => ?_) ?_
  · refine (spoilt_any p AL (n : Int) l cl w1 hS1.1.src hS1.1.rp HAn.out hlen).mono ?_
    rintro e w' ⟨N2, l2, A2, c2, rfl, hl2, hr2, _, hs2, hg2⟩
    have hl1600 := len_of_vld HV.out
    exact ⟨_, rfl, ⟨hS1.1.grown hs2 hg2, Nat.le_trans hS1.2 hg2.size⟩, ⟨N2, A2, _, c2, rfl⟩, N2, l2, A2, c2, rfl, by omega, hr2⟩
  rintro v39 ⟨N2, A2, k2, c2, rfl⟩
  simp only [Act.put, List.setIfInBounds_toArray, List.set_cons_zero, List.set_cons_succ]
  repeat (first
    | (refine TxtBL.skip (by rfl) ?_; simp only [Act.put, List.setIfInBounds_toArray, List.set_cons_zero, List.set_cons_succ])
    | (refine TxtBL.take (by rfl) (by rfl) ?_; apply Exists.intro; refine ⟨fun w1 hS1 => ?_, ?_⟩; (focus ((have g0 := hS1.1.c0); (have g1 := hS1.1.c1); (have g2 := (hS1.1.hb.cell (lt_of_cell p0)).trans p0); (have g3 := (hS1.1.hb.cell (lt_of_cell p1)).trans p1); (have g4 := (hS1.1.hb.cell (lt_of_cell q0)).trans q0); (have g5 := (hS1.1.hb.cell (lt_of_cell q1)).trans q1); go_simp; with_reducible rfl)); simp only [Act.put, List.setIfInBounds_toArray, List.set_cons_zero, List.set_cons_succ])
    | (refine TxtBL.takeE (by rfl) (by rfl) ?_; apply Exists.intro; refine ⟨fun w1 hS1 => ?_, ?_⟩; (focus ((have g0 := hS1.1.c0); (have g1 := hS1.1.c1); (have g2 := (hS1.1.hb.cell (lt_of_cell p0)).trans p0); (have g3 := (hS1.1.hb.cell (lt_of_cell p1)).trans p1); (have g4 := (hS1.1.hb.cell (lt_of_cell q0)).trans q0); (have g5 := (hS1.1.hb.cell (lt_of_cell q1)).trans q1); go_simp; with_reducible rfl)); simp only [Act.put, List.setIfInBounds_toArray, List.set_cons_zero, List.set_cons_succ]))
  refine TxtBL.value (fun u => ∃ q, u = Value.slice (some ⟨q, 0, none⟩) 5 5) (fun u w' => ∃ q l2, u = Value.slice (some ⟨q, 0, none⟩) 5 5 ∧ Blk w' q 24 #[.int .i64 N0, .slice A0 l0.length c0, .int .i64 Nc, .slice A0 lc.length cc, .int .i64 (n : Int), .slice AL l.length cl, .int .i64 N2, .slice A2 l2.length c2, .int .i64 N1, .slice A1 l1.length c1] ∧ l2.length ≤ 100000 ∧ RP w' A2 l2) (by rfl) (by rfl) ⟨_, 0, rfl⟩ (fun w1 hS1 hJ1 => ?_) ?_
  · obtain ⟨N2', l2, A2', c2', he, hl2, hr2⟩ := hJ1
    simp only [Value.agg.injEq, Array.mk.injEq, List.cons.injEq, Value.int.injEq, Value.slice.injEq, true_and, and_true] at he
    obtain ⟨rfl, rfl, rfl, rfl⟩ := he
    exact ⟨.slice (some ⟨w1.heap.size, 0, none⟩) 5 5, w1.alloc (.cells #[.int .i64 N0, .slice A0 l0.length c0, .int .i64 Nc, .slice A0 lc.length cc, .int .i64 (n : Int), .slice AL l.length cl, .int .i64 N2, .slice A2 l2.length c2, .int .i64 N1, .slice A1 l1.length c1] 24), by go_simp, ⟨hS1.1.below (newB _ _), Nat.le_trans hS1.2 (newB _ _).size⟩, ⟨_, rfl⟩, w1.heap.size, l2, rfl, Blk.new _ _ _, hl2, hr2.below (newB _ _)⟩
  rintro v40 ⟨q40, rfl⟩
  simp only [Act.put, List.setIfInBounds_toArray, List.set_cons_zero, List.set_cons_succ]
  repeat (first
    | (refine TxtBL.skip (by rfl) ?_; simp only [Act.put, List.setIfInBounds_toArray, List.set_cons_zero, List.set_cons_succ])
    | (refine TxtBL.take (by rfl) (by rfl) ?_; apply Exists.intro; refine ⟨fun w1 hS1 => ?_, ?_⟩; (focus (skip; go_simp; with_reducible rfl)); simp only [Act.put, List.setIfInBounds_toArray, List.set_cons_zero, List.set_cons_succ])
    | (refine TxtBL.takeE (by rfl) (by rfl) ?_; apply Exists.intro; refine ⟨fun w1 hS1 => ?_, ?_⟩; (focus (skip; go_simp; with_reducible rfl)); simp only [Act.put, List.setIfInBounds_toArray, List.set_cons_zero, List.set_cons_succ]))
  refine TxtBL.nil (fun W2 hS hJ => ?_)
  obtain ⟨hst2, hW12⟩ := hS
  obtain ⟨q, l2, hq, hblk, hl2, hr2⟩ := hJ
  injection hq with hq
  injection hq with hq
  injection hq with hq _ _
  subst hq
  have hbw2 : Below W0.heap.size W0 W2 := hst2.hb
  have hblt := hblk.lt
  have hpick : ∀ (wr : World), Below W2.heap.size W2 wr → ∀ k : Nat, k < 5 → ∃ (N' : Int) (l' : List (Int × Int)) (A' : Option Addr) (c' : Nat), wr.cell? ⟨q40, k * 2, none⟩ = some (.int .i64 N') ∧ wr.cell? ⟨q40, k * 2 + 1, none⟩ = some (.slice A' l'.length c') ∧ RP wr A' l' ∧ l'.length ≤ 100000 := fun wr hbl k hk => by
    have hb := hblk.below hbl hblt
    have hb02 := hbw2.trans (hbl.mono hbw2.size)
    have : k = 0 ∨ k = 1 ∨ k = 2 ∨ k = 3 ∨ k = 4 := by omega
    rcases this with h | h | h | h | h <;> subst h
    · exact ⟨N0, l0, A0, c0, by rw [hb.cell]; rfl, by rw [hb.cell]; rfl, hr0'.below hb02, hl60⟩
    · exact ⟨Nc, lc, A0, cc, by rw [hb.cell]; rfl, by rw [hb.cell]; rfl, hrc.below hb02, hlcl⟩
    · exact ⟨n, l, AL, cl, by rw [hb.cell]; rfl, by rw [hb.cell]; rfl, hst2.rp.below hbl, hlen⟩
    · exact ⟨N2, l2, A2, c2, by rw [hb.cell]; rfl, by rw [hb.cell]; rfl, hr2.below hbl, hl2⟩
    · exact ⟨N1, l1, A1, c1, by rw [hb.cell]; rfl, by rw [hb.cell]; rfl, hr1'.below hb02, hl61⟩
  have Hpick := Lib.hid hpick
  have hTW := hT0.below hbw2
  have hbW := endB hb0 hbw2
  clear hst hst2 hblk hpick hr0' hr1' hrc hr2 hl2 hbw2 hb0 p0 p1 q0 q1 hT0 b0 b1 hlcl hl60 hl61 Hcut H0n HAn HV
  go_wp2_with fail
  go_loopw [45] (fun j wr => ∃ k : Nat, k ≤ 5 ∧ j = .int .i64 k ∧ Below W2.heap.size W2 wr) (fun j _ => 5 - (intOf j).toNat)
  case atStart => exact ⟨0, by omega, rfl, Below.refl _ _⟩
  case round =>
    obtain ⟨k, hk, rfl, hbl⟩ := hrel
    by_cases hk3 : k < 5
    case neg =>
      go_wp2_with fail
      refine (awake10_any wr (hTW.below hbl)).mono ?_
      rintro e w9 ⟨rfl, hb9⟩
      go_wp2_with fail
      go_ret
      exact ⟨rfl, endB hbW (endB hbl hb9)⟩
    case pos =>
    have hk3' : (k : Int) < 5 := by omega
    have hk0' : (0 : Int) ≤ (k : Int) := by omega
    obtain ⟨N', l', A', c', e0, e1, hrp', hl3⟩ := Hpick.out wr hbl k hk3
    go_upto_region 9 with fail
    obtain ⟨W3, hW3, f0, f1, hb3, hlt3⟩ := boxed wr 24 (.int .i64 N') (.slice A' l'.length c')
    rw [hW3]
    have hbk3 := endB hbl hb3
    have hone : OneG wr.heap.size N' l' A' c' W3 := ⟨f0, f1, hrp'.below hb3⟩
    have hT3 := hTW.below hbk3
    clear hW3 e0 e1 hrp' hb3 hlt3 f0 f1
    generalize wr.heap.size = H at *
    have hgN := nGl_len (N := N') hl3
    have hrlen := revL_length (nGl N' l')
    have hrl3 : (revL (nGl N' l')).length ≤ 100000 := by omega
    have hatl : ∀ i, (attackersL (nGl N' l') i).length ≤ 100000 := fun i => by unfold attackersL; rw [List.length_map]; exact Nat.le_trans (List.length_filter_le _ _) hgN
    have hatd : ∀ i, (attackedL (nGl N' l') i).length ≤ 100000 := fun i => by unfold attackedL; rw [List.length_map]; exact Nat.le_trans (List.length_filter_le _ _) hgN
    have hrel : ∀ i, (reachL (nGn N' l').toNat (nGl N' l') i).length ≤ 100000 := fun i => by
      obtain ⟨n, hn, hv⟩ := vld_proper N' l' hl3
      unfold reachL
      split
      · have := nodesB_length (nGn N' l').toNat (reachM (nGn N' l').toNat (nGl N' l') i.toNat).testBit
        rw [hn] at this ⊢
        have := hv.1.1
        simp at *; omega
      · simp
    have Hone := Lib.hid hone
    have Hatl := Lib.hid hatl; have Hatd := Lib.hid hatd; have Hrel := Lib.hid hrel
    have Hrlen := Lib.hid hrlen
    clear hone hatl hatd hrel hrlen
    obtain ⟨ve, hve⟩ : ∃ x, valE N' l' = x := ⟨_, rfl⟩
    obtain ⟨bh, hbh⟩ : ∃ x, hasB (nGl N' l') xi xk = x := ⟨_, rfl⟩
    have Hve := Lib.hid hve; have Hbh := Lib.hid hbh
    have hz1 : (ve != ve) = false := by simp
    have hz2 : (bh != bh) = false := by simp
    clear hve hbh
    refine wp_region_textB [1, 3, 4, 5, 9, 13, 14, 15, 16, 18, 20, 21] (SB W3) (fun _ => True) (by kernel_rfl) (by kernel_rfl) (by kernel_rfl) (Below.refl _ _).drew trivial ?_
    repeat (first
      | (refine TxtBL.skip (by rfl) ?_; simp only [Act.put, List.setIfInBounds_toArray, List.set_cons_zero, List.set_cons_succ])
      | (refine TxtBL.take (by rfl) (by rfl) ?_; apply Exists.intro; refine ⟨fun w1 hS1 => ?_, ?_⟩; (focus ((have h1 := Hone.out.below hS1); (have g0 := h1.c0); (have g1 := h1.c1); clear h1; go_simp; with_reducible rfl)); simp only [Act.put, List.setIfInBounds_toArray, List.set_cons_zero, List.set_cons_succ])
      | (refine TxtBL.takeE (by rfl) (by rfl) ?_; apply Exists.intro; refine ⟨fun w1 hS1 => ?_, ?_⟩; (focus ((have h1 := Hone.out.below hS1); (have g0 := h1.c0); (have g1 := h1.c1); clear h1; go_simp; with_reducible rfl)); simp only [Act.put, List.setIfInBounds_toArray, List.set_cons_zero, List.set_cons_succ]))
    refine TxtBL.call (f := 25) (args := #[.agg #[.int .i64 N', .slice A' l'.length c']]) (fun v => v = .int .i64 ve) (fun _ _ => True) (by rfl) (by rfl) ⟨_, rfl⟩ (fun w1 hS1 hJ1 => by go_simp) (fun w1 hS1 hJ1 => ?_) ?_
    · have h := gValidate_any A' N' l' c' w1 ((Hone.out).below hS1).rp hl3
      rw [Hve.out] at h
      exact h.mono fun _ _ h => ⟨_, h.1, hS1.trans (h.2.mono hS1.size), rfl, trivial⟩
    rintro v rfl
    simp only [Act.put, List.setIfInBounds_toArray, List.set_cons_zero, List.set_cons_succ]
    repeat (first
      | (refine TxtBL.skip (by rfl) ?_; simp only [Act.put, List.setIfInBounds_toArray, List.set_cons_zero, List.set_cons_succ])
      | (refine TxtBL.take (by rfl) (by rfl) ?_; apply Exists.intro; refine ⟨fun w1 hS1 => ?_, ?_⟩; (focus ((have h1 := Hone.out.below hS1); (have g0 := h1.c0); (have g1 := h1.c1); clear h1; go_simp; with_reducible rfl)); simp only [Act.put, List.setIfInBounds_toArray, List.set_cons_zero, List.set_cons_succ])
      | (refine TxtBL.takeE (by rfl) (by rfl) ?_; apply Exists.intro; refine ⟨fun w1 hS1 => ?_, ?_⟩; (focus ((have h1 := Hone.out.below hS1); (have g0 := h1.c0); (have g1 := h1.c1); clear h1; go_simp; with_reducible rfl)); simp only [Act.put, List.setIfInBounds_toArray, List.set_cons_zero, List.set_cons_succ]))
    refine TxtBL.call (f := 32) (args := #[.agg #[.int .i64 N', .slice A' l'.length c']]) (fun v => v = .int .i64 ve) (fun _ _ => True) (by rfl) (by rfl) ⟨_, rfl⟩ (fun w1 hS1 hJ1 => by go_simp) (fun w1 hS1 hJ1 => ?_) ?_
    · have h := r10Validate_any A' N' l' c' w1 ((Hone.out).below hS1).rp hl3
      rw [Hve.out] at h
      exact h.mono fun _ _ h => ⟨_, h.1, hS1.trans (h.2.mono hS1.size), rfl, trivial⟩
    rintro v rfl
    simp only [Act.put, List.setIfInBounds_toArray, List.set_cons_zero, List.set_cons_succ]
    repeat (first
      | (refine TxtBL.skip (by rfl) ?_; simp only [Act.put, List.setIfInBounds_toArray, List.set_cons_zero, List.set_cons_succ])
      | (refine TxtBL.take (by rfl) (by rfl) ?_; apply Exists.intro; refine ⟨fun w1 hS1 => ?_, ?_⟩; (focus ((have h1 := Hone.out.below hS1); (have g0 := h1.c0); (have g1 := h1.c1); clear h1; go_simp; with_reducible rfl)); simp only [Act.put, List.setIfInBounds_toArray, List.set_cons_zero, List.set_cons_succ])
      | (refine TxtBL.takeE (by rfl) (by rfl) ?_; apply Exists.intro; refine ⟨fun w1 hS1 => ?_, ?_⟩; (focus ((have h1 := Hone.out.below hS1); (have g0 := h1.c0); (have g1 := h1.c1); clear h1; go_simp; with_reducible rfl)); simp only [Act.put, List.setIfInBounds_toArray, List.set_cons_zero, List.set_cons_succ]))
    refine TxtBL.call (f := 26) (args := #[.agg #[.int .i64 N', .slice A' l'.length c'], .int .i64 xi, .int .i64 xk]) (fun v => v = .bool bh) (fun _ _ => True) (by rfl) (by rfl) ⟨_, rfl⟩ (fun w1 hS1 hJ1 => by go_simp) (fun w1 hS1 hJ1 => ?_) ?_
    · have h := gHas_any A' N' l' c' xi xk w1 ((Hone.out).below hS1).rp hl3
      rw [Hbh.out] at h
      exact h.mono fun _ _ h => ⟨_, h.1, hS1.trans (h.2.mono hS1.size), rfl, trivial⟩
    rintro v rfl
    simp only [Act.put, List.setIfInBounds_toArray, List.set_cons_zero, List.set_cons_succ]
    repeat (first
      | (refine TxtBL.skip (by rfl) ?_; simp only [Act.put, List.setIfInBounds_toArray, List.set_cons_zero, List.set_cons_succ])
      | (refine TxtBL.take (by rfl) (by rfl) ?_; apply Exists.intro; refine ⟨fun w1 hS1 => ?_, ?_⟩; (focus ((have h1 := Hone.out.below hS1); (have g0 := h1.c0); (have g1 := h1.c1); clear h1; go_simp; with_reducible rfl)); simp only [Act.put, List.setIfInBounds_toArray, List.set_cons_zero, List.set_cons_succ])
      | (refine TxtBL.takeE (by rfl) (by rfl) ?_; apply Exists.intro; refine ⟨fun w1 hS1 => ?_, ?_⟩; (focus ((have h1 := Hone.out.below hS1); (have g0 := h1.c0); (have g1 := h1.c1); clear h1; go_simp; with_reducible rfl)); simp only [Act.put, List.setIfInBounds_toArray, List.set_cons_zero, List.set_cons_succ]))
    refine TxtBL.call (f := 33) (args := #[.agg #[.int .i64 N', .slice A' l'.length c'], .int .i64 xi, .int .i64 xk]) (fun v => v = .bool bh) (fun _ _ => True) (by rfl) (by rfl) ⟨_, rfl⟩ (fun w1 hS1 hJ1 => by go_simp) (fun w1 hS1 hJ1 => ?_) ?_
    · have h := r10Has_any A' N' l' c' xi xk w1 ((Hone.out).below hS1).rp hl3
      rw [Hbh.out] at h
      exact h.mono fun _ _ h => ⟨_, h.1, hS1.trans (h.2.mono hS1.size), rfl, trivial⟩
    rintro v rfl
    simp only [Act.put, List.setIfInBounds_toArray, List.set_cons_zero, List.set_cons_succ]
    repeat (first
      | (refine TxtBL.skip (by rfl) ?_; simp only [Act.put, List.setIfInBounds_toArray, List.set_cons_zero, List.set_cons_succ])
      | (refine TxtBL.take (by rfl) (by rfl) ?_; apply Exists.intro; refine ⟨fun w1 hS1 => ?_, ?_⟩; (focus ((have h1 := Hone.out.below hS1); (have g0 := h1.c0); (have g1 := h1.c1); clear h1; go_simp; with_reducible rfl)); simp only [Act.put, List.setIfInBounds_toArray, List.set_cons_zero, List.set_cons_succ])
      | (refine TxtBL.takeE (by rfl) (by rfl) ?_; apply Exists.intro; refine ⟨fun w1 hS1 => ?_, ?_⟩; (focus ((have h1 := Hone.out.below hS1); (have g0 := h1.c0); (have g1 := h1.c1); clear h1; go_simp; with_reducible rfl)); simp only [Act.put, List.setIfInBounds_toArray, List.set_cons_zero, List.set_cons_succ]))
    refine TxtBL.call (f := 27) (args := #[.agg #[.int .i64 N', .slice A' l'.length c']]) (fun v => ∃ A c, v = .agg #[.int .i64 (nGn N' l'), .slice A (revL (nGl N' l')).length c]) (fun v w' => ∀ A c, v = .agg #[.int .i64 (nGn N' l'), .slice A (revL (nGl N' l')).length c] → RP w' A (revL (nGl N' l'))) (by rfl) (by rfl) ⟨_, none, 0, rfl⟩ (fun w1 hS1 hJ1 => by go_simp) (fun w1 hS1 hJ1 => ?_) ?_
    · refine (gReverse_any A' N' l' c' w1 ((Hone.out).below hS1).rp hl3).mono ?_
      rintro e w' ⟨A5, c5, rfl, hr5, -, hb5⟩
      refine ⟨_, rfl, hS1.trans (hb5.mono hS1.size), ⟨A5, c5, rfl⟩, fun A c e => ?_⟩
      injection e with e; simp at e; rw [← e.1]; exact hr5
    rintro v ⟨A5, c5, rfl⟩
    simp only [Act.put, List.setIfInBounds_toArray, List.set_cons_zero, List.set_cons_succ]
    repeat (first
      | (refine TxtBL.skip (by rfl) ?_; simp only [Act.put, List.setIfInBounds_toArray, List.set_cons_zero, List.set_cons_succ])
      | (refine TxtBL.take (by rfl) (by rfl) ?_; apply Exists.intro; refine ⟨fun w1 hS1 => ?_, ?_⟩; (focus ((have h1 := Hone.out.below hS1); (have g0 := h1.c0); (have g1 := h1.c1); clear h1; go_simp; with_reducible rfl)); simp only [Act.put, List.setIfInBounds_toArray, List.set_cons_zero, List.set_cons_succ])
      | (refine TxtBL.takeE (by rfl) (by rfl) ?_; apply Exists.intro; refine ⟨fun w1 hS1 => ?_, ?_⟩; (focus ((have h1 := Hone.out.below hS1); (have g0 := h1.c0); (have g1 := h1.c1); clear h1; go_simp; with_reducible rfl)); simp only [Act.put, List.setIfInBounds_toArray, List.set_cons_zero, List.set_cons_succ]))
    refine TxtBL.call (f := 34) (args := #[.agg #[.int .i64 N', .slice A' l'.length c']]) (fun v => ∃ A c, v = .agg #[.int .i64 (nGn N' l'), .slice A (revL (nGl N' l')).length c]) (fun v w' => RP w' A5 (revL (nGl N' l')) ∧ ∀ A c, v = .agg #[.int .i64 (nGn N' l'), .slice A (revL (nGl N' l')).length c] → RP w' A (revL (nGl N' l'))) (by rfl) (by rfl) ⟨_, none, 0, rfl⟩ (fun w1 hS1 hJ1 => by go_simp) (fun w1 hS1 hJ1 => ?_) ?_
    · refine (r10Reverse_any A' N' l' c' w1 ((Hone.out).below hS1).rp hl3).mono ?_
      rintro e w' ⟨A6, c6, rfl, hr6, -, hb6⟩
      refine ⟨_, rfl, hS1.trans (hb6.mono hS1.size), ⟨A6, c6, rfl⟩, (hJ1 A5 c5 rfl).below hb6, fun A c e => ?_⟩
      injection e with e; simp at e; rw [← e.1]; exact hr6
    rintro v ⟨A6, c6, rfl⟩
    simp only [Act.put, List.setIfInBounds_toArray, List.set_cons_zero, List.set_cons_succ]
    repeat (first
      | (refine TxtBL.skip (by rfl) ?_; simp only [Act.put, List.setIfInBounds_toArray, List.set_cons_zero, List.set_cons_succ])
      | (refine TxtBL.take (by rfl) (by rfl) ?_; apply Exists.intro; refine ⟨fun w1 hS1 => ?_, ?_⟩; (focus ((have h1 := Hone.out.below hS1); (have g0 := h1.c0); (have g1 := h1.c1); clear h1; go_simp; with_reducible rfl)); simp only [Act.put, List.setIfInBounds_toArray, List.set_cons_zero, List.set_cons_succ])
      | (refine TxtBL.takeE (by rfl) (by rfl) ?_; apply Exists.intro; refine ⟨fun w1 hS1 => ?_, ?_⟩; (focus ((have h1 := Hone.out.below hS1); (have g0 := h1.c0); (have g1 := h1.c1); clear h1; go_simp; with_reducible rfl)); simp only [Act.put, List.setIfInBounds_toArray, List.set_cons_zero, List.set_cons_succ]))
    refine TxtBL.call (f := 17) (args := #[.agg #[.int .i64 (nGn N' l'), .slice A5 (revL (nGl N' l')).length c5], .agg #[.int .i64 (nGn N' l'), .slice A6 (revL (nGl N' l')).length c6]]) (fun v => v = .bool true) (fun _ _ => True) (by rfl) (by rfl) ⟨_, rfl⟩ (fun w1 hS1 hJ1 => by go_simp) (fun w1 hS1 hJ1 => ?_) ?_
    · have h := r10Same_any A5 A6 (nGn N' l') (nGn N' l') (revL (nGl N' l')) (revL (nGl N' l')) c5 c6 w1 hJ1.1 (hJ1.2 _ _ rfl) hrl3 hrl3
      rw [sameB_refl] at h
      exact h.mono fun _ _ h => ⟨_, h.1, hS1.trans (h.2.mono hS1.size), rfl, trivial⟩
    rintro v rfl
    simp only [Act.put, List.setIfInBounds_toArray, List.set_cons_zero, List.set_cons_succ]
    repeat (first
      | (refine TxtBL.skip (by rfl) ?_; simp only [Act.put, List.setIfInBounds_toArray, List.set_cons_zero, List.set_cons_succ])
      | (refine TxtBL.take (by rfl) (by rfl) ?_; apply Exists.intro; refine ⟨fun w1 hS1 => ?_, ?_⟩; (focus (skip; go_simp; with_reducible rfl)); simp only [Act.put, List.setIfInBounds_toArray, List.set_cons_zero, List.set_cons_succ])
      | (refine TxtBL.takeE (by rfl) (by rfl) ?_; apply Exists.intro; refine ⟨fun w1 hS1 => ?_, ?_⟩; (focus (skip; go_simp; with_reducible rfl)); simp only [Act.put, List.setIfInBounds_toArray, List.set_cons_zero, List.set_cons_succ]))
    refine TxtBL.nil (fun W4 hS4 _ => ?_)
    have hone4 := (Hone.out).below hS4
    have hbk4 := endB hbk3 hS4
    have hT4 := hTW.below hbk4
    have Hone := Lib.hid hone4
    clear hS4 hone4 hz1 hz2 hT3
    go_wp2_with fail
    have hr8 := new_ri8 W4 xi (-1) 0 1 2 3 7 8
    have hb8 := newB W4 (.cells #[.int .i64 xi, .int .i64 (-1), .int .i64 0, .int .i64 1, .int .i64 2, .int .i64 3, .int .i64 7, .int .i64 8] 3)
    have hone5 := (Hone.out).below hb8
    have hbk5 := endB hbk4 hb8
    have hT5 := hTW.below hbk5
    generalize W4.alloc (.cells #[.int .i64 xi, .int .i64 (-1), .int .i64 0, .int .i64 1, .int .i64 2, .int .i64 3, .int .i64 7, .int .i64 8] 3) = W5 at *
    generalize W4.heap.size = g8 at *
    have hl8 : ([xi, -1, 0, 1, 2, 3, 7, 8] : List Int).length = 8 := rfl
    generalize ([xi, -1, 0, 1, 2, 3, 7, 8] : List Int) = xs at *
    have Hone5 := Lib.hid hone5; have Hl8 := Lib.hid hl8; have Hr8 := Lib.hid hr8
    clear hb8 hone5 hT4 hbk4 Hone hl8 hr8
    go_loopw [76] (fun t wr => ∃ q : Nat, q ≤ 8 ∧ t = .int .i64 q ∧ Below W5.heap.size W5 wr) (fun t _ => 8 - (intOf t).toNat)
    case atStart => exact ⟨0, by omega, rfl, Below.refl _ _⟩
    case round =>
      obtain ⟨q, hq, rfl, hb5⟩ := hrel
      have hone := (Hone5.out).below hb5
      have hbk6 := endB hbk5 hb5
      by_cases hq8 : q < 8
      case pos =>
        obtain ⟨b9, o9, hA9, hc9⟩ := ((Hr8.out).below hb5).at_ (k := q) (by rw [Hl8.out]; exact hq8)
        injection hA9 with hA9
        injection hA9 with hA9 hA10 _
        subst hA9 hA10
        have hq0 : (0 : Int) ≤ (q : Int) := by omega
        have hq1 : (q : Int) < 8 := by omega
        have hqz : 0 + q = q := Nat.zero_add q
        rw [hqz] at hc9
        clear hqz
        generalize xs[q]'(by rw [Hl8.out]; exact hq8) = x at *
        have Ho := Lib.hid hone
        have hTr := hTW.below hbk6
        obtain ⟨b1, hb1⟩ : ∃ b, hasB (nGl N' l') x 1 = b := ⟨_, rfl⟩
        have Hb1 := Lib.hid hb1
        have hz1 : (b1 != b1) = false := by simp
        have hla := Hatl.out x; have hld := Hatd.out x; have hlr := Hrel.out x
        clear hone hb1
        obtain ⟨wj, hwj⟩ : ∃ wj, wj = wr := ⟨_, rfl⟩
        subst hwj
        go_upto_region 14 with fail
        clear hc9
        refine wp_region_textB [2, 5, 6, 7, 8, 11, 14, 15, 16, 17, 18, 21, 24, 25, 26, 27, 28, 31, 34] (SB wj) (RIs []) (by kernel_rfl) (by kernel_rfl) (by kernel_rfl) (Below.refl _ _).drew (RIs.nil _) ?_
        repeat (first
          | (refine TxtBL.skip (by rfl) ?_; simp only [Act.put, List.setIfInBounds_toArray, List.set_cons_zero, List.set_cons_succ])
          | (refine TxtBL.take (by rfl) (by rfl) ?_; apply Exists.intro; refine ⟨fun w1 hS1 => ?_, ?_⟩; (focus ((have h1 := Ho.out.below hS1); (have g0 := h1.c0); (have g1 := h1.c1); clear h1; go_simp; with_reducible rfl)); simp only [Act.put, List.setIfInBounds_toArray, List.set_cons_zero, List.set_cons_succ])
          | (refine TxtBL.takeE (by rfl) (by rfl) ?_; apply Exists.intro; refine ⟨fun w1 hS1 => ?_, ?_⟩; (focus ((have h1 := Ho.out.below hS1); (have g0 := h1.c0); (have g1 := h1.c1); clear h1; go_simp; with_reducible rfl)); simp only [Act.put, List.setIfInBounds_toArray, List.set_cons_zero, List.set_cons_succ]))
        refine TxtBL.callI (by rfl) (by rfl) ?_
        apply Exists.intro; apply Exists.intro
        refine ⟨fun w1 hS1 => ?_, ?_⟩
        focus (go_simp; first | with_reducible rfl | exact ⟨rfl, rfl⟩)
        refine ⟨attackersL (nGl N' l') x, fun w1 hS1 hJ1 => gAttackersN_any A' N' l' c' x w1 ((Ho.out).below hS1).rp hl3 (hTr.below hS1), fun Aa ca => ?_⟩
        simp only [Act.put, List.setIfInBounds_toArray, List.set_cons_zero, List.set_cons_succ]
        repeat (first
          | (refine TxtBL.skip (by rfl) ?_; simp only [Act.put, List.setIfInBounds_toArray, List.set_cons_zero, List.set_cons_succ])
          | (refine TxtBL.take (by rfl) (by rfl) ?_; apply Exists.intro; refine ⟨fun w1 hS1 => ?_, ?_⟩; (focus ((have h1 := Ho.out.below hS1); (have g0 := h1.c0); (have g1 := h1.c1); clear h1; go_simp; with_reducible rfl)); simp only [Act.put, List.setIfInBounds_toArray, List.set_cons_zero, List.set_cons_succ])
          | (refine TxtBL.takeE (by rfl) (by rfl) ?_; apply Exists.intro; refine ⟨fun w1 hS1 => ?_, ?_⟩; (focus ((have h1 := Ho.out.below hS1); (have g0 := h1.c0); (have g1 := h1.c1); clear h1; go_simp; with_reducible rfl)); simp only [Act.put, List.setIfInBounds_toArray, List.set_cons_zero, List.set_cons_succ]))
        refine TxtBL.callI (by rfl) (by rfl) ?_
        apply Exists.intro; apply Exists.intro
        refine ⟨fun w1 hS1 => ?_, ?_⟩
        focus (go_simp; first | with_reducible rfl | exact ⟨rfl, rfl⟩)
        refine ⟨attackersL (nGl N' l') x, fun w1 hS1 hJ1 => r10Attackers_any A' N' l' c' x w1 ((Ho.out).below hS1).rp hl3, fun Ab cb => ?_⟩
        simp only [Act.put, List.setIfInBounds_toArray, List.set_cons_zero, List.set_cons_succ]
        repeat (first
          | (refine TxtBL.skip (by rfl) ?_; simp only [Act.put, List.setIfInBounds_toArray, List.set_cons_zero, List.set_cons_succ])
          | (refine TxtBL.take (by rfl) (by rfl) ?_; apply Exists.intro; refine ⟨fun w1 hS1 => ?_, ?_⟩; (focus (skip; go_simp; with_reducible rfl)); simp only [Act.put, List.setIfInBounds_toArray, List.set_cons_zero, List.set_cons_succ])
          | (refine TxtBL.takeE (by rfl) (by rfl) ?_; apply Exists.intro; refine ⟨fun w1 hS1 => ?_, ?_⟩; (focus (skip; go_simp; with_reducible rfl)); simp only [Act.put, List.setIfInBounds_toArray, List.set_cons_zero, List.set_cons_succ]))
        refine TxtBL.callB (by rfl) (by rfl) ?_
        apply Exists.intro; apply Exists.intro
        refine ⟨fun w1 hS1 => ?_, ?_⟩
        focus (go_simp; first | with_reducible rfl | exact ⟨rfl, rfl⟩)
        refine ⟨.bool true, fun w1 hS1 hJ1 => ?_, ?_⟩
        · have h := ints_any Aa Ab (attackersL (nGl N' l') x) (attackersL (nGl N' l') x) ca cb w1 (by omega) (by omega) hJ1.tail.head hJ1.head
          rw [show eqB (attackersL (nGl N' l') x) (attackersL (nGl N' l') x) = true by rw [eqB_iff]] at h
          exact h.mono fun _ _ h => h.below
        simp only [Act.put, List.setIfInBounds_toArray, List.set_cons_zero, List.set_cons_succ]
        repeat (first
          | (refine TxtBL.skip (by rfl) ?_; simp only [Act.put, List.setIfInBounds_toArray, List.set_cons_zero, List.set_cons_succ])
          | (refine TxtBL.take (by rfl) (by rfl) ?_; apply Exists.intro; refine ⟨fun w1 hS1 => ?_, ?_⟩; (focus ((have h1 := Ho.out.below hS1); (have g0 := h1.c0); (have g1 := h1.c1); clear h1; go_simp; with_reducible rfl)); simp only [Act.put, List.setIfInBounds_toArray, List.set_cons_zero, List.set_cons_succ])
          | (refine TxtBL.takeE (by rfl) (by rfl) ?_; apply Exists.intro; refine ⟨fun w1 hS1 => ?_, ?_⟩; (focus ((have h1 := Ho.out.below hS1); (have g0 := h1.c0); (have g1 := h1.c1); clear h1; go_simp; with_reducible rfl)); simp only [Act.put, List.setIfInBounds_toArray, List.set_cons_zero, List.set_cons_succ]))
        refine TxtBL.callI (by rfl) (by rfl) ?_
        apply Exists.intro; apply Exists.intro
        refine ⟨fun w1 hS1 => ?_, ?_⟩
        focus (go_simp; first | with_reducible rfl | exact ⟨rfl, rfl⟩)
        refine ⟨attackedL (nGl N' l') x, fun w1 hS1 hJ1 => gAttacked_any A' N' l' c' x w1 ((Ho.out).below hS1).rp hl3 (hTr.below hS1), fun Ac cc2 => ?_⟩
        simp only [Act.put, List.setIfInBounds_toArray, List.set_cons_zero, List.set_cons_succ]
        repeat (first
          | (refine TxtBL.skip (by rfl) ?_; simp only [Act.put, List.setIfInBounds_toArray, List.set_cons_zero, List.set_cons_succ])
          | (refine TxtBL.take (by rfl) (by rfl) ?_; apply Exists.intro; refine ⟨fun w1 hS1 => ?_, ?_⟩; (focus ((have h1 := Ho.out.below hS1); (have g0 := h1.c0); (have g1 := h1.c1); clear h1; go_simp; with_reducible rfl)); simp only [Act.put, List.setIfInBounds_toArray, List.set_cons_zero, List.set_cons_succ])
          | (refine TxtBL.takeE (by rfl) (by rfl) ?_; apply Exists.intro; refine ⟨fun w1 hS1 => ?_, ?_⟩; (focus ((have h1 := Ho.out.below hS1); (have g0 := h1.c0); (have g1 := h1.c1); clear h1; go_simp; with_reducible rfl)); simp only [Act.put, List.setIfInBounds_toArray, List.set_cons_zero, List.set_cons_succ]))
        refine TxtBL.callI (by rfl) (by rfl) ?_
        apply Exists.intro; apply Exists.intro
        refine ⟨fun w1 hS1 => ?_, ?_⟩
        focus (go_simp; first | with_reducible rfl | exact ⟨rfl, rfl⟩)
        refine ⟨attackedL (nGl N' l') x, fun w1 hS1 hJ1 => r10Attacked_any A' N' l' c' x w1 ((Ho.out).below hS1).rp hl3, fun Ad cd => ?_⟩
        simp only [Act.put, List.setIfInBounds_toArray, List.set_cons_zero, List.set_cons_succ]
        repeat (first
          | (refine TxtBL.skip (by rfl) ?_; simp only [Act.put, List.setIfInBounds_toArray, List.set_cons_zero, List.set_cons_succ])
          | (refine TxtBL.take (by rfl) (by rfl) ?_; apply Exists.intro; refine ⟨fun w1 hS1 => ?_, ?_⟩; (focus (skip; go_simp; with_reducible rfl)); simp only [Act.put, List.setIfInBounds_toArray, List.set_cons_zero, List.set_cons_succ])
          | (refine TxtBL.takeE (by rfl) (by rfl) ?_; apply Exists.intro; refine ⟨fun w1 hS1 => ?_, ?_⟩; (focus (skip; go_simp; with_reducible rfl)); simp only [Act.put, List.setIfInBounds_toArray, List.set_cons_zero, List.set_cons_succ]))
        refine TxtBL.callB (by rfl) (by rfl) ?_
        apply Exists.intro; apply Exists.intro
        refine ⟨fun w1 hS1 => ?_, ?_⟩
        focus (go_simp; first | with_reducible rfl | exact ⟨rfl, rfl⟩)
        refine ⟨.bool true, fun w1 hS1 hJ1 => ?_, ?_⟩
        · have h := ints_any Ac Ad (attackedL (nGl N' l') x) (attackedL (nGl N' l') x) cc2 cd w1 (by omega) (by omega) hJ1.tail.head hJ1.head
          rw [show eqB (attackedL (nGl N' l') x) (attackedL (nGl N' l') x) = true by rw [eqB_iff]] at h
          exact h.mono fun _ _ h => h.below
        simp only [Act.put, List.setIfInBounds_toArray, List.set_cons_zero, List.set_cons_succ]
        repeat (first
          | (refine TxtBL.skip (by rfl) ?_; simp only [Act.put, List.setIfInBounds_toArray, List.set_cons_zero, List.set_cons_succ])
          | (refine TxtBL.take (by rfl) (by rfl) ?_; apply Exists.intro; refine ⟨fun w1 hS1 => ?_, ?_⟩; (focus ((have h1 := Ho.out.below hS1); (have g0 := h1.c0); (have g1 := h1.c1); clear h1; go_simp; with_reducible rfl)); simp only [Act.put, List.setIfInBounds_toArray, List.set_cons_zero, List.set_cons_succ])
          | (refine TxtBL.takeE (by rfl) (by rfl) ?_; apply Exists.intro; refine ⟨fun w1 hS1 => ?_, ?_⟩; (focus ((have h1 := Ho.out.below hS1); (have g0 := h1.c0); (have g1 := h1.c1); clear h1; go_simp; with_reducible rfl)); simp only [Act.put, List.setIfInBounds_toArray, List.set_cons_zero, List.set_cons_succ]))
        refine TxtBL.callI (by rfl) (by rfl) ?_
        apply Exists.intro; apply Exists.intro
        refine ⟨fun w1 hS1 => ?_, ?_⟩
        focus (go_simp; first | with_reducible rfl | exact ⟨rfl, rfl⟩)
        refine ⟨reachL (nGn N' l').toNat (nGl N' l') x, fun w1 hS1 hJ1 => gReach_any A' N' l' c' x w1 ((Ho.out).below hS1).rp hl3 (hTr.below hS1), fun Ae ce => ?_⟩
        simp only [Act.put, List.setIfInBounds_toArray, List.set_cons_zero, List.set_cons_succ]
        repeat (first
          | (refine TxtBL.skip (by rfl) ?_; simp only [Act.put, List.setIfInBounds_toArray, List.set_cons_zero, List.set_cons_succ])
          | (refine TxtBL.take (by rfl) (by rfl) ?_; apply Exists.intro; refine ⟨fun w1 hS1 => ?_, ?_⟩; (focus ((have h1 := Ho.out.below hS1); (have g0 := h1.c0); (have g1 := h1.c1); clear h1; go_simp; with_reducible rfl)); simp only [Act.put, List.setIfInBounds_toArray, List.set_cons_zero, List.set_cons_succ])
          | (refine TxtBL.takeE (by rfl) (by rfl) ?_; apply Exists.intro; refine ⟨fun w1 hS1 => ?_, ?_⟩; (focus ((have h1 := Ho.out.below hS1); (have g0 := h1.c0); (have g1 := h1.c1); clear h1; go_simp; with_reducible rfl)); simp only [Act.put, List.setIfInBounds_toArray, List.set_cons_zero, List.set_cons_succ]))
        refine TxtBL.callI (by rfl) (by rfl) ?_
        apply Exists.intro; apply Exists.intro
        refine ⟨fun w1 hS1 => ?_, ?_⟩
        focus (go_simp; first | with_reducible rfl | exact ⟨rfl, rfl⟩)
        refine ⟨reachL (nGn N' l').toNat (nGl N' l') x, fun w1 hS1 hJ1 => r10Reach_any A' N' l' c' x w1 ((Ho.out).below hS1).rp hl3, fun Af cf => ?_⟩
        simp only [Act.put, List.setIfInBounds_toArray, List.set_cons_zero, List.set_cons_succ]
        repeat (first
          | (refine TxtBL.skip (by rfl) ?_; simp only [Act.put, List.setIfInBounds_toArray, List.set_cons_zero, List.set_cons_succ])
          | (refine TxtBL.take (by rfl) (by rfl) ?_; apply Exists.intro; refine ⟨fun w1 hS1 => ?_, ?_⟩; (focus (skip; go_simp; with_reducible rfl)); simp only [Act.put, List.setIfInBounds_toArray, List.set_cons_zero, List.set_cons_succ])
          | (refine TxtBL.takeE (by rfl) (by rfl) ?_; apply Exists.intro; refine ⟨fun w1 hS1 => ?_, ?_⟩; (focus (skip; go_simp; with_reducible rfl)); simp only [Act.put, List.setIfInBounds_toArray, List.set_cons_zero, List.set_cons_succ]))
        refine TxtBL.callB (by rfl) (by rfl) ?_
        apply Exists.intro; apply Exists.intro
        refine ⟨fun w1 hS1 => ?_, ?_⟩
        focus (go_simp; first | with_reducible rfl | exact ⟨rfl, rfl⟩)
        refine ⟨.bool true, fun w1 hS1 hJ1 => ?_, ?_⟩
        · have h := ints_any Ae Af (reachL (nGn N' l').toNat (nGl N' l') x) (reachL (nGn N' l').toNat (nGl N' l') x) ce cf w1 (by omega) (by omega) hJ1.tail.head hJ1.head
          rw [show eqB (reachL (nGn N' l').toNat (nGl N' l') x) (reachL (nGn N' l').toNat (nGl N' l') x) = true by rw [eqB_iff]] at h
          exact h.mono fun _ _ h => h.below
        simp only [Act.put, List.setIfInBounds_toArray, List.set_cons_zero, List.set_cons_succ]
        repeat (first
          | (refine TxtBL.skip (by rfl) ?_; simp only [Act.put, List.setIfInBounds_toArray, List.set_cons_zero, List.set_cons_succ])
          | (refine TxtBL.take (by rfl) (by rfl) ?_; apply Exists.intro; refine ⟨fun w1 hS1 => ?_, ?_⟩; (focus ((have h1 := Ho.out.below hS1); (have g0 := h1.c0); (have g1 := h1.c1); clear h1; go_simp; with_reducible rfl)); simp only [Act.put, List.setIfInBounds_toArray, List.set_cons_zero, List.set_cons_succ])
          | (refine TxtBL.takeE (by rfl) (by rfl) ?_; apply Exists.intro; refine ⟨fun w1 hS1 => ?_, ?_⟩; (focus ((have h1 := Ho.out.below hS1); (have g0 := h1.c0); (have g1 := h1.c1); clear h1; go_simp; with_reducible rfl)); simp only [Act.put, List.setIfInBounds_toArray, List.set_cons_zero, List.set_cons_succ]))
        refine TxtBL.callB (by rfl) (by rfl) ?_
        apply Exists.intro; apply Exists.intro
        refine ⟨fun w1 hS1 => ?_, ?_⟩
        focus (go_simp; first | with_reducible rfl | exact ⟨rfl, rfl⟩)
        refine ⟨.bool b1, fun w1 hS1 hJ1 => ?_, ?_⟩
        · have h := gHas_any A' N' l' c' x 1 w1 ((Ho.out).below hS1).rp hl3
          rw [Hb1.out] at h
          exact h
        simp only [Act.put, List.setIfInBounds_toArray, List.set_cons_zero, List.set_cons_succ]
        repeat (first
          | (refine TxtBL.skip (by rfl) ?_; simp only [Act.put, List.setIfInBounds_toArray, List.set_cons_zero, List.set_cons_succ])
          | (refine TxtBL.take (by rfl) (by rfl) ?_; apply Exists.intro; refine ⟨fun w1 hS1 => ?_, ?_⟩; (focus ((have h1 := Ho.out.below hS1); (have g0 := h1.c0); (have g1 := h1.c1); clear h1; go_simp; with_reducible rfl)); simp only [Act.put, List.setIfInBounds_toArray, List.set_cons_zero, List.set_cons_succ])
          | (refine TxtBL.takeE (by rfl) (by rfl) ?_; apply Exists.intro; refine ⟨fun w1 hS1 => ?_, ?_⟩; (focus ((have h1 := Ho.out.below hS1); (have g0 := h1.c0); (have g1 := h1.c1); clear h1; go_simp; with_reducible rfl)); simp only [Act.put, List.setIfInBounds_toArray, List.set_cons_zero, List.set_cons_succ]))
        refine TxtBL.callB (by rfl) (by rfl) ?_
        apply Exists.intro; apply Exists.intro
        refine ⟨fun w1 hS1 => ?_, ?_⟩
        focus (go_simp; first | with_reducible rfl | exact ⟨rfl, rfl⟩)
        refine ⟨.bool b1, fun w1 hS1 hJ1 => ?_, ?_⟩
        · have h := r10Has_any A' N' l' c' x 1 w1 ((Ho.out).below hS1).rp hl3
          rw [Hb1.out] at h
          exact h
        simp only [Act.put, List.setIfInBounds_toArray, List.set_cons_zero, List.set_cons_succ]
        repeat (first
          | (refine TxtBL.skip (by rfl) ?_; simp only [Act.put, List.setIfInBounds_toArray, List.set_cons_zero, List.set_cons_succ])
          | (refine TxtBL.take (by rfl) (by rfl) ?_; apply Exists.intro; refine ⟨fun w1 hS1 => ?_, ?_⟩; (focus (skip; go_simp; with_reducible rfl)); simp only [Act.put, List.setIfInBounds_toArray, List.set_cons_zero, List.set_cons_succ])
          | (refine TxtBL.takeE (by rfl) (by rfl) ?_; apply Exists.intro; refine ⟨fun w1 hS1 => ?_, ?_⟩; (focus (skip; go_simp; with_reducible rfl)); simp only [Act.put, List.setIfInBounds_toArray, List.set_cons_zero, List.set_cons_succ]))
        refine TxtBL.nil (fun W7 hS7 _ => ?_)
        have hb7 := endB hb5 hS7
        clear Ho hS7 hz1
        go_wp2_with fail
        go_roundw
        case rel => exact ⟨q + 1, by omega, by go_num, hb7⟩
        case measure => simp [intOf]; omega
      case neg =>
      have Hone6 := Lib.hid hone
      clear hone
      obtain ⟨wo, hwo⟩ : ∃ wo, wo = wr := ⟨_, rfl⟩
      subst hwo
      go_wp2_with fail
      go_loopw [120] (fun t wr => ∃ q : Nat, q ≤ 5 ∧ t = .int .i64 q ∧ Below wo.heap.size wo wr) (fun t _ => 5 - (intOf t).toNat)
      case atStart => exact ⟨0, by omega, rfl, Below.refl _ _⟩
      case round =>
        obtain ⟨r, hr, rfl, hb6⟩ := hrel
        have hbk7 := endB hbk6 hb6
        by_cases hr5 : r < 5
        case pos =>
          have hr5' : (r : Int) < 5 := by omega
          have hr0' : (0 : Int) ≤ (r : Int) := by omega
          obtain ⟨N2', l2', A2', c2', e0, e1, hrp2, hl4⟩ := Hpick.out wr hbk7 r hr5
          go_upto_region 20 with fail
          obtain ⟨W8, hW8, f0, f1, hb9, hlt9⟩ := boxed wr 24 (.int .i64 N2') (.slice A2' l2'.length c2')
          rw [hW8]
          have hbk8 := endB hb6 hb9
          have ho1 := (Hone6.out).below hbk8
          have ho2 : OneG wr.heap.size N2' l2' A2' c2' W8 := ⟨f0, f1, hrp2.below hb9⟩
          have Ho1 := Lib.hid ho1; have Ho2 := Lib.hid ho2
          obtain ⟨b2, hb2⟩ : ∃ b, sameB N' l' N2' l2' = b := ⟨_, rfl⟩
          have Hb2 := Lib.hid hb2
          have hz2 : (b2 != b2) = false := by simp
          clear hW8 e0 e1 hrp2 hb9 hlt9 f0 f1 ho1 ho2 hb2
          generalize wr.heap.size = H2 at *
          refine wp_region_textB [2, 5] (SB W8) (RIs []) (by kernel_rfl) (by kernel_rfl) (by kernel_rfl) (Below.refl _ _).drew (RIs.nil _) ?_
          repeat (first
            | (refine TxtBL.skip (by rfl) ?_; simp only [Act.put, List.setIfInBounds_toArray, List.set_cons_zero, List.set_cons_succ])
            | (refine TxtBL.take (by rfl) (by rfl) ?_; apply Exists.intro; refine ⟨fun w1 hS1 => ?_, ?_⟩; (focus ((have h1 := Ho1.out.below hS1); (have g0 := h1.c0); (have g1 := h1.c1); clear h1; (have h2 := Ho2.out.below hS1); (have g2 := h2.c0); (have g3 := h2.c1); clear h2; go_simp; with_reducible rfl)); simp only [Act.put, List.setIfInBounds_toArray, List.set_cons_zero, List.set_cons_succ])
            | (refine TxtBL.takeE (by rfl) (by rfl) ?_; apply Exists.intro; refine ⟨fun w1 hS1 => ?_, ?_⟩; (focus ((have h1 := Ho1.out.below hS1); (have g0 := h1.c0); (have g1 := h1.c1); clear h1; (have h2 := Ho2.out.below hS1); (have g2 := h2.c0); (have g3 := h2.c1); clear h2; go_simp; with_reducible rfl)); simp only [Act.put, List.setIfInBounds_toArray, List.set_cons_zero, List.set_cons_succ]))
          refine TxtBL.callB (by rfl) (by rfl) ?_
          apply Exists.intro; apply Exists.intro
          refine ⟨fun w1 hS1 => ?_, ?_⟩
          focus (go_simp; first | with_reducible rfl | exact ⟨rfl, rfl⟩)
          refine ⟨.bool b2, fun w1 hS1 hJ1 => ?_, ?_⟩
          · have h := gSame_any A' A2' N' N2' l' l2' c' c2' w1 ((Ho1.out).below hS1).rp ((Ho2.out).below hS1).rp hl3 hl4
            rw [Hb2.out] at h
            exact h
          simp only [Act.put, List.setIfInBounds_toArray, List.set_cons_zero, List.set_cons_succ]
          repeat (first
            | (refine TxtBL.skip (by rfl) ?_; simp only [Act.put, List.setIfInBounds_toArray, List.set_cons_zero, List.set_cons_succ])
            | (refine TxtBL.take (by rfl) (by rfl) ?_; apply Exists.intro; refine ⟨fun w1 hS1 => ?_, ?_⟩; (focus ((have h1 := Ho1.out.below hS1); (have g0 := h1.c0); (have g1 := h1.c1); clear h1; (have h2 := Ho2.out.below hS1); (have g2 := h2.c0); (have g3 := h2.c1); clear h2; go_simp; with_reducible rfl)); simp only [Act.put, List.setIfInBounds_toArray, List.set_cons_zero, List.set_cons_succ])
            | (refine TxtBL.takeE (by rfl) (by rfl) ?_; apply Exists.intro; refine ⟨fun w1 hS1 => ?_, ?_⟩; (focus ((have h1 := Ho1.out.below hS1); (have g0 := h1.c0); (have g1 := h1.c1); clear h1; (have h2 := Ho2.out.below hS1); (have g2 := h2.c0); (have g3 := h2.c1); clear h2; go_simp; with_reducible rfl)); simp only [Act.put, List.setIfInBounds_toArray, List.set_cons_zero, List.set_cons_succ]))
          refine TxtBL.callB (by rfl) (by rfl) ?_
          apply Exists.intro; apply Exists.intro
          refine ⟨fun w1 hS1 => ?_, ?_⟩
          focus (go_simp; first | with_reducible rfl | exact ⟨rfl, rfl⟩)
          refine ⟨.bool b2, fun w1 hS1 hJ1 => ?_, ?_⟩
          · have h := r10Same_any A' A2' N' N2' l' l2' c' c2' w1 ((Ho1.out).below hS1).rp ((Ho2.out).below hS1).rp hl3 hl4
            rw [Hb2.out] at h
            exact h
          simp only [Act.put, List.setIfInBounds_toArray, List.set_cons_zero, List.set_cons_succ]
          repeat (first
            | (refine TxtBL.skip (by rfl) ?_; simp only [Act.put, List.setIfInBounds_toArray, List.set_cons_zero, List.set_cons_succ])
            | (refine TxtBL.take (by rfl) (by rfl) ?_; apply Exists.intro; refine ⟨fun w1 hS1 => ?_, ?_⟩; (focus (skip; go_simp; with_reducible rfl)); simp only [Act.put, List.setIfInBounds_toArray, List.set_cons_zero, List.set_cons_succ])
            | (refine TxtBL.takeE (by rfl) (by rfl) ?_; apply Exists.intro; refine ⟨fun w1 hS1 => ?_, ?_⟩; (focus (skip; go_simp; with_reducible rfl)); simp only [Act.put, List.setIfInBounds_toArray, List.set_cons_zero, List.set_cons_succ]))
          refine TxtBL.nil (fun W9 hS9 _ => ?_)
          have hb10 := endB hbk8 hS9
          clear Ho1 Ho2 hS9 hz2
          go_wp2_with fail
          go_roundw
          case rel => exact ⟨r + 1, by omega, by go_num, hb10⟩
          case measure => simp [intOf]; omega
        case neg =>
          go_wp2_with fail
          go_roundw
          case rel => exact ⟨k + 1, by omega, by go_num, hbk7⟩
          case measure => simp [intOf]; omega
end Go.Proofs.YtkflanjlnbdkmaaDoor
