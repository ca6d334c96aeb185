/- The walk of the statement GraphParts. -/
import Derived.Test.YtkflanjlnbdkmaaDoorA10
import Derived.Test.YtkflanjlnbdkmaaDoorRc10
import Derived.Test.YtkflanjlnbdkmaaDoorIn10
import Derived.Test.YtkflanjlnbdkmaaDoorG10
import Derived.Test.YtkflanjlnbdkmaaDoorLis0
import Derived.Test.YtkflanjlnbdkmaaDoorSpo
import Derived.Test.YtkflanjlnbdkmaaDoorGenM
import Derived.Test.YtkflanjlnbdkmaaDoorLov
import Derived.Test.YtkflanjlnbdkmaaDoorTxtX
namespace Go.Proofs.YtkflanjlnbdkmaaDoor
open Go.ChangeShapes Go.WideShapes Go.ChangeAt Go.RowKit

theorem RP.grownC {w w' : World} {A : Option Addr} {l : List (Int × Int)} {p : Nat} (h : RP w A l) (hg : w.grownBy w' (some p)) (hne : ∀ b o, A = some ⟨b, o, none⟩ → 0 < l.length → b ≠ p) : RP w' A l := by
  by_cases hl : 0 < l.length
  · exact h.grown hg fun b o e => hne b o e hl
  · intro k hk; omega

set_option maxRecDepth 100000 in
set_option maxHeartbeats 8000000 in
theorem gpa_law_any (A0 : Option Addr) (N0 : Int) (l0 : List (Int × Int)) (c0 : Nat) (A1 : Option Addr) (nd : List Int) (c1 : Nat) (A : Option Addr) (arg : List Int) (c : Nat) (w : World)
    (_hl0 : l0.length ≤ 9223372036854775807) (hr0 : RP w A0 l0) (_h0n : A0 = none → l0 = [] ∧ c0 = 0)
    (_hl1 : nd.length ≤ 9223372036854775807) (hr1 : RI w A1 nd) (_h1n : A1 = none → nd = [] ∧ c1 = 0)
    (hlc : arg.length ≤ c) (hc : c ≤ 9223372036854775807) (hr : RI w A arg) (hx : ∀ x ∈ arg, -9223372036854775808 ≤ x ∧ x ≤ 9223372036854775807) (hT : Tab w) :
    Calls Tryd.prog 3 #[.agg #[.int .i64 N0, .slice A0 l0.length c0], .slice A1 nd.length c1, .slice A arg.length c] w (RetB (.bool true) w) := by
  go_enter Tryd.func3, Tryd.ntmps3
  go_upto_region 1 with fail
  obtain ⟨W0, hW, p0, p1, hb0, hlt0⟩ := boxed w 24 (.int .i64 N0) (.slice A0 l0.length c0)
  rw [hW]
  clear hW
  by_cases h60 : 100 < l0.length
  · have hd : decide ((100 : Int) < (l0.length : Int)) = true := by rw [decide_eq_true_eq]; omega
    have H60 := Lib.hid h60; clear h60
    go_wp2_with fail
    go_ret
    exact ⟨rfl, hb0⟩
  have hd0 : decide ((100 : Int) < (l0.length : Int)) = false := by rw [decide_eq_false_iff_not]; omega
  by_cases h61 : 50 < nd.length
  · have hd : decide ((50 : Int) < (nd.length : Int)) = true := by rw [decide_eq_true_eq]; omega
    have H60 := Lib.hid h60; have H61 := Lib.hid h61; clear h60 h61
    go_wp2_with fail
    go_ret
    exact ⟨rfl, hb0⟩
  have hd1 : decide ((50 : Int) < (nd.length : Int)) = false := by rw [decide_eq_false_iff_not]; omega
  have hl60 : l0.length ≤ 100000 := by omega
  have hl61 : nd.length ≤ 100000 := by omega
  clear h60 h61
  have hr0' := hr0.below hb0
  have hr1' := hr1.below hb0
  have hr1w : ∀ wr, Below W0.heap.size W0 wr → RI wr A1 nd := fun wr hb => hr1'.below hb
  have hT0 := hT.below hb0
  go_wp2_with fail
  refine (new_any A arg c W0 hlc hc (hr.below hb0) hx).mono ?_
  rintro e w1 ⟨p, rfl, hp, hs1, hb1⟩
  have hp1 := hs1.lt
  clear hr hx hr0 hr1 hT hd0 hd1
  go_wp2_with fail
  refine (graph2_any p 9 w1 hs1 (by omega)).mono ?_
  rintro e w2 ⟨n, l, AL, cl, rfl, hN, hv, hrp, hloc, hs2, hg2, hAn⟩
  have hb2 : Below W0.heap.size W0 w2 := hb1.trans (below_of_grownBy hg2 hp hb1.size)
  clear hs1 hb1 hg2
  go_upto_region 5 with fail
  obtain ⟨W1, hW, k0, k1, hbx, hlt1⟩ := boxed w2 24 (.int .i64 n) (.slice AL l.length cl)
  rw [hW]
  clear hW
  have hst := GSt.start hp hp1 hb2 hs2 hrp hloc hbx k0 k1
  have hlen := hv.1.2.1
  have HV := Lib.hid hv; have HAn := Lib.hid hAn
  clear hs2 hrp hloc hbx k0 k1 hb2 hp1 hv hAn
  generalize w2.heap.size = G at *
  have hbG := hst.hb
  refine wp_region_textB [4, 6, 7] (fun w' => GSt W0 p G n l AL cl w' ∧ W1.heap.size ≤ w'.heap.size) (fun _ => True) (by kernel_rfl) (by kernel_rfl) (by kernel_rfl) ⟨hst.below (Below.refl _ _).drew, Nat.le_refl _⟩ trivial ?_
  repeat (first
    | (refine TxtBL.skip (by rfl) ?_; simp only [Act.put, List.setIfInBounds_toArray, List.set_cons_zero, List.set_cons_succ])
    | (refine TxtBL.take (by rfl) (by rfl) ?_; apply Exists.intro; refine ⟨fun w1 hS1 => ?_, ?_⟩; (focus ((have g0 := hS1.1.c0); (have g1 := hS1.1.c1); (have g2 := (hS1.1.hb.cell (lt_of_cell p0)).trans p0); (have g3 := (hS1.1.hb.cell (lt_of_cell p1)).trans p1); go_simp; with_reducible rfl)); simp only [Act.put, List.setIfInBounds_toArray, List.set_cons_zero, List.set_cons_succ])
    | (refine TxtBL.takeE (by rfl) (by rfl) ?_; apply Exists.intro; refine ⟨fun w1 hS1 => ?_, ?_⟩; (focus ((have g0 := hS1.1.c0); (have g1 := hS1.1.c1); (have g2 := (hS1.1.hb.cell (lt_of_cell p0)).trans p0); (have g3 := (hS1.1.hb.cell (lt_of_cell p1)).trans p1); go_simp; with_reducible rfl)); simp only [Act.put, List.setIfInBounds_toArray, List.set_cons_zero, List.set_cons_succ]))
  refine TxtBL.call (f := 13) (args := #[.pointer (some ⟨p, 0, none⟩), .agg #[.int .i64 (n : Int), .slice AL l.length cl]]) (fun v => ∃ N2 A2 k2 c2, v = Value.agg #[.int .i64 N2, .slice A2 k2 c2]) (fun v w' => ∃ N2 l2 A2 c2, v = Value.agg #[.int .i64 N2, .slice A2 l2.length c2] ∧ l2.length ≤ 100000 ∧ RP w' A2 l2 ∧ ∀ b o, A2 = some ⟨b, o, none⟩ → b ≠ p) (by rfl) (by rfl) ⟨_, 0, none, 0, 0, rfl⟩ (fun w1 hS1 hJ1 => by go_simp) (fun w1 hS1 hJ1 => ?_) ?_
  · refine (spoilt_any p AL (n : Int) l cl w1 hS1.1.src hS1.1.rp HAn.out hlen).mono ?_
    rintro e w' ⟨N2, l2, A2, c2, rfl, hl2, hr2, hlo, hs2, hg2⟩
    have hpl := hS1.1.src.lt
    have hl1600 := len_of_vld HV.out
    exact ⟨_, rfl, ⟨hS1.1.grown hs2 hg2, Nat.le_trans hS1.2 hg2.size⟩, ⟨N2, A2, _, c2, rfl⟩, N2, l2, A2, c2, rfl, by omega, hr2, fun b o e => by have := hlo b o e; omega⟩
  rintro v39 ⟨N2, A2, k2, c2, rfl⟩
  simp only [Act.put, List.setIfInBounds_toArray, List.set_cons_zero, List.set_cons_succ]
  repeat (first
    | (refine TxtBL.skip (by rfl) ?_; simp only [Act.put, List.setIfInBounds_toArray, List.set_cons_zero, List.set_cons_succ])
    | (refine TxtBL.take (by rfl) (by rfl) ?_; apply Exists.intro; refine ⟨fun w1 hS1 => ?_, ?_⟩; (focus ((have g0 := hS1.1.c0); (have g1 := hS1.1.c1); (have g2 := (hS1.1.hb.cell (lt_of_cell p0)).trans p0); (have g3 := (hS1.1.hb.cell (lt_of_cell p1)).trans p1); go_simp; with_reducible rfl)); simp only [Act.put, List.setIfInBounds_toArray, List.set_cons_zero, List.set_cons_succ])
    | (refine TxtBL.takeE (by rfl) (by rfl) ?_; apply Exists.intro; refine ⟨fun w1 hS1 => ?_, ?_⟩; (focus ((have g0 := hS1.1.c0); (have g1 := hS1.1.c1); (have g2 := (hS1.1.hb.cell (lt_of_cell p0)).trans p0); (have g3 := (hS1.1.hb.cell (lt_of_cell p1)).trans p1); go_simp; with_reducible rfl)); simp only [Act.put, List.setIfInBounds_toArray, List.set_cons_zero, List.set_cons_succ]))
  refine TxtBL.call (f := 12) (args := #[.pointer (some ⟨p, 0, none⟩), .int .i64 20]) (fun v => ∃ N3 A3 k3 c3, v = Value.agg #[.int .i64 N3, .slice A3 k3 c3]) (fun v w' => ∃ l2 N3 l3 A3 c3, k2 = l2.length ∧ v = Value.agg #[.int .i64 N3, .slice A3 l3.length c3] ∧ (l2.length ≤ 100000 ∧ RP w' A2 l2 ∧ ∀ b o, A2 = some ⟨b, o, none⟩ → b ≠ p) ∧ l3.length ≤ 100000 ∧ RP w' A3 l3 ∧ ∀ b o, A3 = some ⟨b, o, none⟩ → b ≠ p) (by rfl) (by rfl) ⟨_, 0, none, 0, 0, rfl⟩ (fun w1 hS1 hJ1 => by go_simp) (fun w1 hS1 hJ1 => ?_) ?_
  · obtain ⟨N2', l2, A2', c2', he, hl2, hr2, hn2⟩ := hJ1
    simp only [Value.agg.injEq, Array.mk.injEq, List.cons.injEq, Value.int.injEq, Value.slice.injEq, true_and, and_true] at he
    obtain ⟨rfl, rfl, rfl, rfl⟩ := he
    refine (graph2_any p 20 w1 hS1.1.src (by omega)).mono ?_
    rintro e w' ⟨N3, l3, A3, c3, rfl, _, hv3, hr3, hlo, hs3, hg3, _⟩
    have hpl := hS1.1.src.lt
    have hl3 := hv3.1.2.1
    exact ⟨_, rfl, ⟨hS1.1.grown hs3 hg3, Nat.le_trans hS1.2 hg3.size⟩, ⟨N3, A3, _, c3, rfl⟩, l2, N3, l3, A3, c3, rfl, rfl, ⟨hl2, hr2.grown hg3 hn2, hn2⟩, hl3, hr3, fun b o e => by have := hlo b o e; omega⟩
  rintro v41 ⟨N3, A3, k3, c3, rfl⟩
  simp only [Act.put, List.setIfInBounds_toArray, List.set_cons_zero, List.set_cons_succ]
  refine TxtBL.value (fun u => ∃ q, u = Value.slice (some ⟨q, 0, none⟩) 4 4) (fun u w' => ∃ q l2 l3, u = Value.slice (some ⟨q, 0, none⟩) 4 4 ∧ Blk w' q 24 #[.int .i64 N0, .slice A0 l0.length c0, .int .i64 (n : Int), .slice AL l.length cl, .int .i64 N2, .slice A2 l2.length c2, .int .i64 N3, .slice A3 l3.length c3] ∧ q ≠ p ∧ (l2.length ≤ 100000 ∧ RP w' A2 l2 ∧ ∀ b o, A2 = some ⟨b, o, none⟩ → b ≠ p) ∧ l3.length ≤ 100000 ∧ RP w' A3 l3 ∧ ∀ b o, A3 = some ⟨b, o, none⟩ → b ≠ p) (by rfl) (by rfl) ⟨_, 0, rfl⟩ (fun w1 hS1 hJ1 => ?_) ?_
  · obtain ⟨l2, N3', l3, A3', c3', rfl, he, ⟨hl2, hr2, hn2⟩, hl3, hr3, hn3⟩ := hJ1
    simp only [Value.agg.injEq, Array.mk.injEq, List.cons.injEq, Value.int.injEq, Value.slice.injEq, true_and, and_true] at he
    obtain ⟨rfl, rfl, rfl, rfl⟩ := he
    have hpl := hS1.1.src.lt
    exact ⟨.slice (some ⟨w1.heap.size, 0, none⟩) 4 4, w1.alloc (.cells #[.int .i64 N0, .slice A0 l0.length c0, .int .i64 (n : Int), .slice AL l.length cl, .int .i64 N2, .slice A2 l2.length c2, .int .i64 N3, .slice A3 l3.length c3] 24), by go_simp, ⟨hS1.1.below (newB _ _), Nat.le_trans hS1.2 (newB _ _).size⟩, ⟨_, rfl⟩, w1.heap.size, l2, l3, rfl, Blk.new _ _ _, by omega, ⟨hl2, hr2.below (newB _ _), hn2⟩, hl3, hr3.below (newB _ _), hn3⟩
  rintro v42 ⟨q40, rfl⟩
  simp only [Act.put, List.setIfInBounds_toArray, List.set_cons_zero, List.set_cons_succ]
  repeat (first
    | (refine TxtBL.skip (by rfl) ?_; simp only [Act.put, List.setIfInBounds_toArray, List.set_cons_zero, List.set_cons_succ])
    | (refine TxtBL.take (by rfl) (by rfl) ?_; apply Exists.intro; refine ⟨fun w1 hS1 => ?_, ?_⟩; (focus (skip; go_simp; with_reducible rfl)); simp only [Act.put, List.setIfInBounds_toArray, List.set_cons_zero, List.set_cons_succ])
    | (refine TxtBL.takeE (by rfl) (by rfl) ?_; apply Exists.intro; refine ⟨fun w1 hS1 => ?_, ?_⟩; (focus (skip; go_simp; with_reducible rfl)); simp only [Act.put, List.setIfInBounds_toArray, List.set_cons_zero, List.set_cons_succ]))
  refine TxtBL.nil (fun W2 hS hJ => ?_)
  obtain ⟨hst2, hW12⟩ := hS
  obtain ⟨q, l2, l3, hq, hblk, hqp, ⟨hl2, hr2, hn2⟩, hl3, hr3, hn3⟩ := hJ
  injection hq with hq
  injection hq with hq
  injection hq with hq _ _
  subst hq
  have hbw2 : Below W0.heap.size W0 W2 := hst2.hb
  have hn0 : ∀ b o, A0 = some ⟨b, o, none⟩ → 0 < l0.length → b ≠ p := fun b o e hl => by have := hr0'.lt e hl; omega
  have hr02 := hr0'.below hbw2
  have hpick : ∀ (wr : World), GSt W0 p G n l AL cl wr → W2.grownBy wr (some p) → ∀ k : Nat, k < 4 → ∃ (N' : Int) (l' : List (Int × Int)) (A' : Option Addr) (c' : Nat), wr.cell? ⟨q40, k * 2, none⟩ = some (.int .i64 N') ∧ wr.cell? ⟨q40, k * 2 + 1, none⟩ = some (.slice A' l'.length c') ∧ RP wr A' l' ∧ l'.length ≤ 100000 ∧ ∀ b o, A' = some ⟨b, o, none⟩ → 0 < l'.length → b ≠ p := fun wr hstr hg k hk => by
    have hqs : some q40 ≠ some p := fun e => by injection e with e; exact hqp e
    have : k = 0 ∨ k = 1 ∨ k = 2 ∨ k = 3 := by omega
    rcases this with h | h | h | h <;> subst h
    · exact ⟨N0, l0, A0, c0, hg.cell (by rw [hblk.cell]; rfl) hqs, hg.cell (by rw [hblk.cell]; rfl) hqs, hr02.grownC hg hn0, hl60, hn0⟩
    · exact ⟨n, l, AL, cl, hg.cell (by rw [hblk.cell]; rfl) hqs, hg.cell (by rw [hblk.cell]; rfl) hqs, hstr.rp, hlen, fun b o e _ => hstr.hA b o e⟩
    · exact ⟨N2, l2, A2, c2, hg.cell (by rw [hblk.cell]; rfl) hqs, hg.cell (by rw [hblk.cell]; rfl) hqs, hr2.grown hg hn2, hl2, fun b o e _ => hn2 b o e⟩
    · exact ⟨N3, l3, A3, c3, hg.cell (by rw [hblk.cell]; rfl) hqs, hg.cell (by rw [hblk.cell]; rfl) hqs, hr3.grown hg hn3, hl3, fun b o e _ => hn3 b o e⟩
  have Hpick := Lib.hid hpick
  have hTW := hT0.below hbw2
  have hbW := endB hb0 hbw2
  have hn1 : ∀ b o, A1 = some ⟨b, o, none⟩ → 0 < nd.length → b ≠ p := fun b o e hl => by
    obtain ⟨b', o', e', hc⟩ := hr1'.at_ hl
    rw [e] at e'; injection e' with e'; injection e' with e' _ _; subst e'
    have : b < W0.heap.size := lt_of_cell hc
    omega
  have hr12 := hr1'.below hbw2
  have hst3 := Lib.hid hst2; have Hn1 := Lib.hid hn1; have Hr12 := Lib.hid hr12
  clear hst hblk hpick hr0' hr1' hr2 hr3 hn2 hn3 hl2 hl3 hbw2 p0 p1 hTW hbW hn0 hr02 hl60 HAn HV hn1 hr12
  go_wp2_with fail
  have hst2 := hst3.out
  clear hst3
  go_loopw [34] (fun j wr => ∃ k : Nat, k ≤ 4 ∧ j = .int .i64 k ∧ GSt W0 p G n l AL cl wr ∧ W2.grownBy wr (some p)) (fun j _ => 4 - (intOf j).toNat)
  case atStart => exact ⟨0, by omega, rfl, hst2, grownBy_refl _ _⟩
  case round =>
    clear hst2
    obtain ⟨k, hk, rfl, hst, hgr⟩ := hrel
    have hbl : Below W0.heap.size W0 wr := hst.hb
    by_cases hk3 : k < 4
    case neg =>
      have hTr := hT0.below hbl
      go_wp2_with fail
      refine (awake10_any wr hTr).mono ?_
      rintro e w9 ⟨rfl, hb9⟩
      go_wp2_with fail
      go_ret
      exact ⟨rfl, endB (endB hb0 hbl) hb9⟩
    case pos =>
    have hk3' : (k : Int) < 4 := by omega
    have hk0' : (0 : Int) ≤ (k : Int) := by omega
    obtain ⟨N', l', A', c', e0, e1, hrp', hl3, hnA⟩ := Hpick.out wr hst hgr k hk3
    go_upto_region 8 with fail
    obtain ⟨W3, hW3, f0, f1, hb3, hlt3⟩ := boxed wr 24 (.int .i64 N') (.slice A' l'.length c')
    rw [hW3]
    have hst3 := hst.below hb3
    have hgr3 : W2.grownBy W3 (some p) := ⟨hb3.os.trans hgr.os, hb3.tape.trans hgr.tape, hb3.output.trans hgr.output, Nat.le_trans hgr.size hb3.size, fun j hj hne => (hb3.block j (Nat.lt_of_lt_of_le hj hgr.size)).trans (hgr.block j hj hne)⟩
    have hrp3 := hrp'.below hb3
    have hnd3 : RI wr A1 nd := hr1w wr hbl
    have hT3 := hT0.below (hbl.trans (hb3.mono hbl.size))
    obtain ⟨CL, hCL⟩ : ∃ CL, compsL (nGn N' l').toNat (nGl N' l') = CL := ⟨_, rfl⟩
    obtain ⟨mN, hmN⟩ : ∃ m, (nodesB (nGn N' l').toNat fun i => inB nd i).length = m := ⟨_, rfl⟩
    obtain ⟨IL, hIL⟩ : ∃ L, indP (nodesB (nGn N' l').toNat fun i => inB nd i) (nGl N' l') = L := ⟨_, rfl⟩
    have hILl : IL.length ≤ 100000 := by
      rw [← hIL]
      exact Nat.le_trans (indP_len _ _) (nGl_len hl3)
    have hCn : CL.length ≤ 100000 := by
      obtain ⟨m, hm, hv⟩ := vld_proper N' l' hl3
      have := comps_few hv (ls := compsL m (nGl N' l')) (q := []) (List.append_nil _)
      rw [← hCL, hm]; simp; omega
    have hCm : ∀ x ∈ CL, x.length ≤ 100000 := fun x hx => by
      rw [← hCL] at hx
      unfold compsL at hx
      obtain ⟨m, _, rfl⟩ := List.mem_map.1 hx
      have := nodesB_length 64 m.testBit
      omega
    have hpr : p < wr.heap.size := hst.src.lt
    clear hW3 e0 e1 hrp' hst hgr
    refine wp_region_textB [1, 3, 4, 5, 6, 9, 12, 13] (fun w' => Below W3.heap.size W3 w') (fun _ => True) (by kernel_rfl) (by kernel_rfl) (by kernel_rfl) (Below.refl _ _).drew trivial ?_
    repeat (first
      | (refine TxtBL.skip (by rfl) ?_; simp only [Act.put, List.setIfInBounds_toArray, List.set_cons_zero, List.set_cons_succ])
      | (refine TxtBL.take (by rfl) (by rfl) ?_; apply Exists.intro; refine ⟨fun w1 hS1 => ?_, ?_⟩; (focus ((have g0 := (hS1.cell (lt_of_cell f0)).trans f0); (have g1 := (hS1.cell (lt_of_cell f1)).trans f1); go_simp; with_reducible rfl)); simp only [Act.put, List.setIfInBounds_toArray, List.set_cons_zero, List.set_cons_succ])
      | (refine TxtBL.takeE (by rfl) (by rfl) ?_; apply Exists.intro; refine ⟨fun w1 hS1 => ?_, ?_⟩; (focus ((have g0 := (hS1.cell (lt_of_cell f0)).trans f0); (have g1 := (hS1.cell (lt_of_cell f1)).trans f1); go_simp; with_reducible rfl)); simp only [Act.put, List.setIfInBounds_toArray, List.set_cons_zero, List.set_cons_succ]))
    refine TxtBL.call (f := 15) (args := #[.agg #[.int .i64 N', .slice A' l'.length c']]) (fun v => ∃ A c, v = .slice A CL.length c) (fun v w' => ∀ A c, v = .slice A CL.length c → RSo w' A CL) (by rfl) (by rfl) ⟨_, none, 0, rfl⟩ (fun w1 hS1 hJ1 => by go_simp) (fun w1 hS1 hJ1 => ?_) ?_
    · have h := gComponents_any A' N' l' c' w1 (hrp3.below hS1) hl3 (hT3.below hS1)
      rw [hCL] at h
      refine h.mono ?_
      rintro e w' ⟨A5, c5, rfl, hr5, -, hb5⟩
      refine ⟨_, rfl, hS1.trans (hb5.mono hS1.size), ⟨A5, c5, rfl⟩, fun A c e => ?_⟩
      injection e with e _ _; rw [← e]; exact hr5
    rintro v ⟨A5, c5, rfl⟩
    simp only [Act.put, List.setIfInBounds_toArray, List.set_cons_zero, List.set_cons_succ]
    repeat (first
      | (refine TxtBL.skip (by rfl) ?_; simp only [Act.put, List.setIfInBounds_toArray, List.set_cons_zero, List.set_cons_succ])
      | (refine TxtBL.take (by rfl) (by rfl) ?_; apply Exists.intro; refine ⟨fun w1 hS1 => ?_, ?_⟩; (focus ((have g0 := (hS1.cell (lt_of_cell f0)).trans f0); (have g1 := (hS1.cell (lt_of_cell f1)).trans f1); go_simp; with_reducible rfl)); simp only [Act.put, List.setIfInBounds_toArray, List.set_cons_zero, List.set_cons_succ])
      | (refine TxtBL.takeE (by rfl) (by rfl) ?_; apply Exists.intro; refine ⟨fun w1 hS1 => ?_, ?_⟩; (focus ((have g0 := (hS1.cell (lt_of_cell f0)).trans f0); (have g1 := (hS1.cell (lt_of_cell f1)).trans f1); go_simp; with_reducible rfl)); simp only [Act.put, List.setIfInBounds_toArray, List.set_cons_zero, List.set_cons_succ]))
    refine TxtBL.call (f := 16) (args := #[.agg #[.int .i64 N', .slice A' l'.length c']]) (fun v => ∃ A c, v = .slice A CL.length c) (fun v w' => RSo w' A5 CL ∧ ∀ A c, v = .slice A CL.length c → RSo w' A CL) (by rfl) (by rfl) ⟨_, none, 0, rfl⟩ (fun w1 hS1 hJ1 => by go_simp) (fun w1 hS1 hJ1 => ?_) ?_
    · have h := r10Components_any A' N' l' c' w1 (hrp3.below hS1) hl3
      rw [hCL] at h
      refine h.mono ?_
      rintro e w' ⟨A6, c6, rfl, hr6, -, hb6⟩
      refine ⟨_, rfl, hS1.trans (hb6.mono hS1.size), ⟨A6, c6, rfl⟩, (hJ1 A5 c5 rfl).below hb6, fun A c e => ?_⟩
      injection e with e _ _; rw [← e]; exact hr6
    rintro v ⟨A6, c6, rfl⟩
    simp only [Act.put, List.setIfInBounds_toArray, List.set_cons_zero, List.set_cons_succ]
    refine TxtBL.call (f := 14) (args := #[.slice A5 CL.length c5, .slice A6 CL.length c6]) (fun v => v = .bool true) (fun _ _ => True) (by rfl) (by rfl) ⟨_, rfl⟩ (fun w1 hS1 hJ1 => by go_simp) (fun w1 hS1 hJ1 => ?_) ?_
    · have h := lists_any A5 A6 CL CL c5 c6 w1 hCn hCn hCm hCm hJ1.1.rs (hJ1.2 _ _ rfl).rs
      rw [show eqLs CL CL = true by simp [eqLs]] at h
      exact h.mono fun _ _ h => ⟨_, h.1, hS1.trans (h.2.mono hS1.size), rfl, trivial⟩
    rintro v rfl
    simp only [Act.put, List.setIfInBounds_toArray, List.set_cons_zero, List.set_cons_succ]
    repeat (first
      | (refine TxtBL.skip (by rfl) ?_; simp only [Act.put, List.setIfInBounds_toArray, List.set_cons_zero, List.set_cons_succ])
      | (refine TxtBL.take (by rfl) (by rfl) ?_; apply Exists.intro; refine ⟨fun w1 hS1 => ?_, ?_⟩; (focus ((have g0 := (hS1.cell (lt_of_cell f0)).trans f0); (have g1 := (hS1.cell (lt_of_cell f1)).trans f1); go_simp; with_reducible rfl)); simp only [Act.put, List.setIfInBounds_toArray, List.set_cons_zero, List.set_cons_succ])
      | (refine TxtBL.takeE (by rfl) (by rfl) ?_; apply Exists.intro; refine ⟨fun w1 hS1 => ?_, ?_⟩; (focus ((have g0 := (hS1.cell (lt_of_cell f0)).trans f0); (have g1 := (hS1.cell (lt_of_cell f1)).trans f1); go_simp; with_reducible rfl)); simp only [Act.put, List.setIfInBounds_toArray, List.set_cons_zero, List.set_cons_succ]))
    refine TxtBL.call (f := 18) (args := #[.agg #[.int .i64 N', .slice A' l'.length c'], .slice A1 nd.length c1]) (fun v => ∃ A c, v = .agg #[.int .i64 (mN : Nat), .slice A IL.length c]) (fun v w' => ∀ A c, v = .agg #[.int .i64 (mN : Nat), .slice A IL.length c] → RP w' A IL) (by rfl) (by rfl) ⟨_, none, 0, rfl⟩ (fun w1 hS1 hJ1 => by go_simp) (fun w1 hS1 hJ1 => ?_) ?_
    · have h := gInduced_any A' N' l' c' A1 nd c1 w1 (hrp3.below hS1) hl3 ((hnd3.below hb3).below hS1) hl61
      rw [hmN, hIL] at h
      refine h.mono ?_
      rintro e w' ⟨A7, c7, rfl, hr7, -, hb7⟩
      refine ⟨_, rfl, hS1.trans (hb7.mono hS1.size), ⟨A7, c7, rfl⟩, fun A c e => ?_⟩
      injection e with e; simp at e; rw [← e.1]; exact hr7
    rintro v ⟨A7, c7, rfl⟩
    simp only [Act.put, List.setIfInBounds_toArray, List.set_cons_zero, List.set_cons_succ]
    repeat (first
      | (refine TxtBL.skip (by rfl) ?_; simp only [Act.put, List.setIfInBounds_toArray, List.set_cons_zero, List.set_cons_succ])
      | (refine TxtBL.take (by rfl) (by rfl) ?_; apply Exists.intro; refine ⟨fun w1 hS1 => ?_, ?_⟩; (focus ((have g0 := (hS1.cell (lt_of_cell f0)).trans f0); (have g1 := (hS1.cell (lt_of_cell f1)).trans f1); go_simp; with_reducible rfl)); simp only [Act.put, List.setIfInBounds_toArray, List.set_cons_zero, List.set_cons_succ])
      | (refine TxtBL.takeE (by rfl) (by rfl) ?_; apply Exists.intro; refine ⟨fun w1 hS1 => ?_, ?_⟩; (focus ((have g0 := (hS1.cell (lt_of_cell f0)).trans f0); (have g1 := (hS1.cell (lt_of_cell f1)).trans f1); go_simp; with_reducible rfl)); simp only [Act.put, List.setIfInBounds_toArray, List.set_cons_zero, List.set_cons_succ]))
    refine TxtBL.call (f := 19) (args := #[.agg #[.int .i64 N', .slice A' l'.length c'], .slice A1 nd.length c1]) (fun v => ∃ A c, v = .agg #[.int .i64 (mN : Nat), .slice A IL.length c]) (fun v w' => RP w' A7 IL ∧ ∀ A c, v = .agg #[.int .i64 (mN : Nat), .slice A IL.length c] → RP w' A IL) (by rfl) (by rfl) ⟨_, none, 0, rfl⟩ (fun w1 hS1 hJ1 => by go_simp) (fun w1 hS1 hJ1 => ?_) ?_
    · have h := r10Induced_any A' N' l' c' A1 nd c1 w1 (hrp3.below hS1) hl3 ((hnd3.below hb3).below hS1) hl61
      rw [hmN, hIL] at h
      refine h.mono ?_
      rintro e w' ⟨A8, c8, rfl, hr8, -, hb8⟩
      refine ⟨_, rfl, hS1.trans (hb8.mono hS1.size), ⟨A8, c8, rfl⟩, (hJ1 A7 c7 rfl).below hb8, fun A c e => ?_⟩
      injection e with e; simp at e; rw [← e.1]; exact hr8
    rintro v ⟨A8, c8, rfl⟩
    simp only [Act.put, List.setIfInBounds_toArray, List.set_cons_zero, List.set_cons_succ]
    refine TxtBL.call (f := 17) (args := #[.agg #[.int .i64 (mN : Nat), .slice A7 IL.length c7], .agg #[.int .i64 (mN : Nat), .slice A8 IL.length c8]]) (fun v => v = .bool true) (fun _ _ => True) (by rfl) (by rfl) ⟨_, rfl⟩ (fun w1 hS1 hJ1 => by go_simp) (fun w1 hS1 hJ1 => ?_) ?_
    · have h := r10Same_any A7 A8 (mN : Nat) (mN : Nat) IL IL c7 c8 w1 hJ1.1 (hJ1.2 _ _ rfl) hILl hILl
      rw [sameB_refl] at h
      exact h.mono fun _ _ h => ⟨_, h.1, hS1.trans (h.2.mono hS1.size), rfl, trivial⟩
    rintro v rfl
    simp only [Act.put, List.setIfInBounds_toArray, List.set_cons_zero, List.set_cons_succ]
    repeat (first
      | (refine TxtBL.skip (by rfl) ?_; simp only [Act.put, List.setIfInBounds_toArray, List.set_cons_zero, List.set_cons_succ])
      | (refine TxtBL.take (by rfl) (by rfl) ?_; apply Exists.intro; refine ⟨fun w1 hS1 => ?_, ?_⟩; (focus (skip; go_simp; with_reducible rfl)); simp only [Act.put, List.setIfInBounds_toArray, List.set_cons_zero, List.set_cons_succ])
      | (refine TxtBL.takeE (by rfl) (by rfl) ?_; apply Exists.intro; refine ⟨fun w1 hS1 => ?_, ?_⟩; (focus (skip; go_simp; with_reducible rfl)); simp only [Act.put, List.setIfInBounds_toArray, List.set_cons_zero, List.set_cons_succ]))
    refine TxtBL.nil (fun W4 hS4 _ => ?_)
    have hst4 := hst3.below hS4
    have hrp4 := hrp3.below hS4
    have f04 := (hS4.cell (lt_of_cell f0)).trans f0
    have f14 := (hS4.cell (lt_of_cell f1)).trans f1
    have hgr4 : W2.grownBy W4 (some p) := ⟨hS4.os.trans hgr3.os, hS4.tape.trans hgr3.tape, hS4.output.trans hgr3.output, Nat.le_trans hgr3.size hS4.size, fun j hj hne => (hS4.block j (Nat.lt_of_lt_of_le hj hgr3.size)).trans (hgr3.block j hj hne)⟩
    clear hS4 hst3 hrp3 f0 f1 hgr3 hnd3 hb3
    go_wp2_with fail
    refine (part_any p 9 W4 hst4.src (by omega)).mono ?_
    rintro e w5 ⟨f, v5, rfl, hown5, hs5, hg5⟩
    have hG4 : G < W4.heap.size := lt_of_cell hst4.c0
    have h24 : W2.heap.size ≤ W4.heap.size := hgr4.size
    have hA4 : ∀ b o, A' = some ⟨b, o, none⟩ → 0 < l'.length → b < W4.heap.size := fun b o e hl => hrp4.lt e hl
    have hst5 := hst4.grown hs5 hg5
    have hgr5 := grownBy_trans hgr4 hg5
    have hrp5 := hrp4.grownC hg5 hnA
    have Hown5 := Lib.hid hown5
    clear hown5
    go_wp2_with fail
    refine (n_any p 12 w5 hst5.src (by omega) (by omega)).mono ?_
    rintro e w6 ⟨x6, rfl, hx60, hx61, hs6, hg6⟩
    have hst6 := hst5.grown hs6 hg6
    have hgr6 := grownBy_trans hgr5 hg6
    have hrp6 := hrp5.grownC hg6 hnA
    go_wp2_with fail
    refine (n_any p 5 w6 hst6.src (by omega) (by omega)).mono ?_
    rintro e w7 ⟨x7, rfl, hx70, hx71, hs7, hg7⟩
    have hst7 := hst6.grown hs7 hg7
    have hgr7 := grownBy_trans hgr6 hg7
    have hrp7 := hrp6.grownC hg7 hnA
    have hne : ∀ k, v5.ownBlock = some k → W4.heap.size ≤ k ∧ k < w5.heap.size := fun k hk => World.ownsRow.lt Hown5.out k hk
    have hp4 : p < W4.heap.size := hst4.src.lt
    have hown7 : OwnI w7 W4.heap.size v5 (nodesB 9 f) := World.ownsRow.kept (World.ownsRow.kept Hown5.out hg6 (.inr fun e => by have := hne p e; omega)) hg7 (.inr fun e => by have := hne p e; omega)
    have hown8 := World.ownsRow.alloc hown7 (.cells #[.int .i64 (x6 - 2), .int .i64 x7] 3)
    have hf7 : w.heap.size ≤ wr.heap.size := Nat.le_trans hb0.size hbl.size
    have hnl := nodesB_length 9 f
    have Hown8 := Lib.hid hown8; have Hst7 := Lib.hid hst7; have Hgr7 := Lib.hid hgr7; have Hrp7 := Lib.hid hrp7
    have hsz7 : W4.heap.size ≤ w7.heap.size := Nat.le_trans hg5.size (Nat.le_trans hg6.size hg7.size)
    clear hst5 hst6 hgr5 hgr6 hrp5 hrp6 hown7 hown8 hst7 hgr7 hrp7 hs5 hs6 hs7 hst4 hrp4 hgr4
    have hrp : some wr.heap.size ≠ some p := fun e => by injection e with e; omega
    have f07 := hg7.cell (hg6.cell (hg5.cell f04 hrp) hrp) hrp
    have f17 := hg7.cell (hg6.cell (hg5.cell f14 hrp) hrp) hrp
    have hlt4 := lt_of_cell f04
    simp only at hlt4
    obtain ⟨sm, hsm⟩ : ∃ s, nodesB 9 f ++ [x6 - 2, x7] = s := ⟨_, rfl⟩
    have hsml : sm.length ≤ 11 := by rw [← hsm]; simp; omega
    obtain ⟨W7, hW7⟩ : ∃ W, w7.alloc (.cells #[.int .i64 (x6 - 2), .int .i64 x7] 3) = W := ⟨_, rfl⟩
    have hb7 : Below w7.heap.size w7 W7 := by rw [← hW7]; exact newB _ _
    have F07 := Lib.hid ((hb7.cell (lt_of_cell f07)).trans f07); have F17 := Lib.hid ((hb7.cell (lt_of_cell f17)).trans f17)
    have HW7 := Lib.hid hW7; have Hb7 := Lib.hid hb7; have HA4 := Lib.hid hA4; have Hsm := Lib.hid hsm
    clear f04 f14 f07 f17 hg5 hg6 hg7 hW7 hb7 hA4 hsm
    go_upto_region 11 with (at_builtin; refine wpList_appIs (by rfl) _ _ (by rfl) (w7.alloc (.cells #[.int .i64 (x6 - 2), .int .i64 x7] 3)) W4.heap.size _ (nodesB 9 f) (some ⟨w7.heap.size, 0, none⟩) [x6 - 2, x7] 2 Hown8.out (new_ri2 _ _ _ _) (by simp) (by rfl) (by rfl) (by simp; omega) (by simp; omega) ?_; intro v8 w8 hown hb8 hg8; rw [Hsm.out] at hown; rw [HW7.out] at hb8 hg8; (obtain ⟨A8', c8', rfl, hr8, _⟩ := OwnI.form hown); have Hb8 := Lib.hid hb8; have Hg8 := Lib.hid hg8; have Hr8 := Lib.hid hr8; clear hown hb8 hg8 hr8)
    have hst8 : GSt W0 p G n l AL cl w8 := (Hst7.out.below Hb7.out).append (by rw [← HW7.out]; exact Hown8.out) Hg8.out Hb8.out hG4
    have hgr8 : W2.grownBy w8 (some p) := by
      have h7 := Hgr7.out; have b7 := Hb7.out; have b8 := Hb8.out
      exact ⟨b8.os.trans (b7.os.trans h7.os), b8.tape.trans (b7.tape.trans h7.tape), b8.output.trans (b7.output.trans h7.output), Nat.le_trans h7.size (Nat.le_trans b7.size b8.size), fun j hj hne => (b8.block j (Nat.lt_of_lt_of_le hj h24)).trans ((b7.block j (Nat.lt_of_lt_of_le hj h7.size)).trans (h7.block j hj hne))⟩
    have hrp8 : RP w8 A' l' := fun i hi => by
      obtain ⟨b, o, e, hc, hd⟩ := Hrp7.out i hi
      have hb := HA4.out b o e (by omega)
      exact ⟨b, o, e, (Hb8.out.cell hb).trans ((Hb7.out.cell (lt_of_cell hc)).trans hc), (Hb8.out.cell hb).trans ((Hb7.out.cell (lt_of_cell hd)).trans hd)⟩
    have hr8 := Hr8.out
    have f0 : w8.cell? ⟨wr.heap.size, 0, none⟩ = some (.int .i64 N') := (Hb8.out.cell hlt4).trans F07.out
    have f1 : w8.cell? ⟨wr.heap.size, 1, none⟩ = some (.slice A' l'.length c') := (Hb8.out.cell hlt4).trans F17.out
    clear Hst7 Hgr7 Hrp7 Hb7 Hb8 Hg8 Hown8 Hr8 F07 F17 HW7
    obtain ⟨mN2, hmN2⟩ : ∃ m, (nodesB (nGn N' l').toNat fun i => inB sm i).length = m := ⟨_, rfl⟩
    obtain ⟨IL2, hIL2⟩ : ∃ L, indP (nodesB (nGn N' l').toNat fun i => inB sm i) (nGl N' l') = L := ⟨_, rfl⟩
    have hILl2 : IL2.length ≤ 100000 := by
      rw [← hIL2]
      exact Nat.le_trans (indP_len _ _) (nGl_len hl3)
    refine wp_region_textB [2, 5, 6] (fun w' => Below w8.heap.size w8 w') (fun _ => True) (by kernel_rfl) (by kernel_rfl) (by kernel_rfl) (Below.refl _ _).drew trivial ?_
    repeat (first
      | (refine TxtBL.skip (by rfl) ?_; simp only [Act.put, List.setIfInBounds_toArray, List.set_cons_zero, List.set_cons_succ])
      | (refine TxtBL.take (by rfl) (by rfl) ?_; apply Exists.intro; refine ⟨fun w1 hS1 => ?_, ?_⟩; (focus ((have g0 := (hS1.cell (lt_of_cell f0)).trans f0); (have g1 := (hS1.cell (lt_of_cell f1)).trans f1); go_simp; with_reducible rfl)); simp only [Act.put, List.setIfInBounds_toArray, List.set_cons_zero, List.set_cons_succ])
      | (refine TxtBL.takeE (by rfl) (by rfl) ?_; apply Exists.intro; refine ⟨fun w1 hS1 => ?_, ?_⟩; (focus ((have g0 := (hS1.cell (lt_of_cell f0)).trans f0); (have g1 := (hS1.cell (lt_of_cell f1)).trans f1); go_simp; with_reducible rfl)); simp only [Act.put, List.setIfInBounds_toArray, List.set_cons_zero, List.set_cons_succ]))
    refine TxtBL.call (f := 18) (args := #[.agg #[.int .i64 N', .slice A' l'.length c'], .slice A8' sm.length c8']) (fun v => ∃ A c, v = .agg #[.int .i64 (mN2 : Nat), .slice A IL2.length c]) (fun v w' => ∀ A c, v = .agg #[.int .i64 (mN2 : Nat), .slice A IL2.length c] → RP w' A IL2) (by rfl) (by rfl) ⟨_, none, 0, rfl⟩ (fun w1 hS1 hJ1 => by go_simp) (fun w1 hS1 hJ1 => ?_) ?_
    · have h := gInduced_any A' N' l' c' A8' sm c8' w1 (hrp8.below hS1) hl3 (hr8.below hS1) (by omega)
      rw [hmN2, hIL2] at h
      refine h.mono ?_
      rintro e w' ⟨A7, c7, rfl, hr7, -, hb7⟩
      refine ⟨_, rfl, hS1.trans (hb7.mono hS1.size), ⟨A7, c7, rfl⟩, fun A c e => ?_⟩
      injection e with e; simp at e; rw [← e.1]; exact hr7
    rintro v ⟨A7, c7, rfl⟩
    simp only [Act.put, List.setIfInBounds_toArray, List.set_cons_zero, List.set_cons_succ]
    repeat (first
      | (refine TxtBL.skip (by rfl) ?_; simp only [Act.put, List.setIfInBounds_toArray, List.set_cons_zero, List.set_cons_succ])
      | (refine TxtBL.take (by rfl) (by rfl) ?_; apply Exists.intro; refine ⟨fun w1 hS1 => ?_, ?_⟩; (focus ((have g0 := (hS1.cell (lt_of_cell f0)).trans f0); (have g1 := (hS1.cell (lt_of_cell f1)).trans f1); go_simp; with_reducible rfl)); simp only [Act.put, List.setIfInBounds_toArray, List.set_cons_zero, List.set_cons_succ])
      | (refine TxtBL.takeE (by rfl) (by rfl) ?_; apply Exists.intro; refine ⟨fun w1 hS1 => ?_, ?_⟩; (focus ((have g0 := (hS1.cell (lt_of_cell f0)).trans f0); (have g1 := (hS1.cell (lt_of_cell f1)).trans f1); go_simp; with_reducible rfl)); simp only [Act.put, List.setIfInBounds_toArray, List.set_cons_zero, List.set_cons_succ]))
    refine TxtBL.call (f := 19) (args := #[.agg #[.int .i64 N', .slice A' l'.length c'], .slice A8' sm.length c8']) (fun v => ∃ A c, v = .agg #[.int .i64 (mN2 : Nat), .slice A IL2.length c]) (fun v w' => RP w' A7 IL2 ∧ ∀ A c, v = .agg #[.int .i64 (mN2 : Nat), .slice A IL2.length c] → RP w' A IL2) (by rfl) (by rfl) ⟨_, none, 0, rfl⟩ (fun w1 hS1 hJ1 => by go_simp) (fun w1 hS1 hJ1 => ?_) ?_
    · have h := r10Induced_any A' N' l' c' A8' sm c8' w1 (hrp8.below hS1) hl3 (hr8.below hS1) (by omega)
      rw [hmN2, hIL2] at h
      refine h.mono ?_
      rintro e w' ⟨A9, c9, rfl, hr9, -, hb9⟩
      refine ⟨_, rfl, hS1.trans (hb9.mono hS1.size), ⟨A9, c9, rfl⟩, (hJ1 A7 c7 rfl).below hb9, fun A c e => ?_⟩
      injection e with e; simp at e; rw [← e.1]; exact hr9
    rintro v ⟨A9, c9, rfl⟩
    simp only [Act.put, List.setIfInBounds_toArray, List.set_cons_zero, List.set_cons_succ]
    refine TxtBL.call (f := 17) (args := #[.agg #[.int .i64 (mN2 : Nat), .slice A7 IL2.length c7], .agg #[.int .i64 (mN2 : Nat), .slice A9 IL2.length c9]]) (fun v => v = .bool true) (fun _ _ => True) (by rfl) (by rfl) ⟨_, rfl⟩ (fun w1 hS1 hJ1 => by go_simp) (fun w1 hS1 hJ1 => ?_) ?_
    · have h := r10Same_any A7 A9 (mN2 : Nat) (mN2 : Nat) IL2 IL2 c7 c9 w1 hJ1.1 (hJ1.2 _ _ rfl) hILl2 hILl2
      rw [sameB_refl] at h
      exact h.mono fun _ _ h => ⟨_, h.1, hS1.trans (h.2.mono hS1.size), rfl, trivial⟩
    rintro v rfl
    simp only [Act.put, List.setIfInBounds_toArray, List.set_cons_zero, List.set_cons_succ]
    repeat (first
      | (refine TxtBL.skip (by rfl) ?_; simp only [Act.put, List.setIfInBounds_toArray, List.set_cons_zero, List.set_cons_succ])
      | (refine TxtBL.take (by rfl) (by rfl) ?_; apply Exists.intro; refine ⟨fun w1 hS1 => ?_, ?_⟩; (focus (skip; go_simp; with_reducible rfl)); simp only [Act.put, List.setIfInBounds_toArray, List.set_cons_zero, List.set_cons_succ])
      | (refine TxtBL.takeE (by rfl) (by rfl) ?_; apply Exists.intro; refine ⟨fun w1 hS1 => ?_, ?_⟩; (focus (skip; go_simp; with_reducible rfl)); simp only [Act.put, List.setIfInBounds_toArray, List.set_cons_zero, List.set_cons_succ]))
    refine TxtBL.nil (fun W5 hS5 _ => ?_)
    have hst9 := Lib.hid (hst8.below hS5)
    have hgr9 : W2.grownBy W5 (some p) := ⟨hS5.os.trans hgr8.os, hS5.tape.trans hgr8.tape, hS5.output.trans hgr8.output, Nat.le_trans hgr8.size hS5.size, fun j hj hne => (hS5.block j (Nat.lt_of_lt_of_le hj hgr8.size)).trans (hgr8.block j hj hne)⟩
    have Hgr9 := Lib.hid hgr9
    clear hS5 hst8 hrp8 f0 f1 hgr8 hr8 hgr9
    go_wp2_with fail
    go_roundw
    case rel => exact ⟨k + 1, by omega, by go_num, hst9.out, Hgr9.out⟩
    case measure => simp [intOf]; omega
end Go.Proofs.YtkflanjlnbdkmaaDoor
