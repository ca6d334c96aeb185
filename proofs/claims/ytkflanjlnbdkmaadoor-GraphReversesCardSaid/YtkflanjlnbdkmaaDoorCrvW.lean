/- The walk of the statement GraphReverses. -/
import Derived.Test.YtkflanjlnbdkmaaDoorA10
import Derived.Test.YtkflanjlnbdkmaaDoorCpr
import Derived.Test.YtkflanjlnbdkmaaDoorGenM
import Derived.Test.YtkflanjlnbdkmaaDoorTxtX
namespace Go.Proofs.YtkflanjlnbdkmaaDoor
open Go.ChangeShapes Go.WideShapes Go.ChangeAt Go.RowKit

theorem inB_nodes1 {n : Nat} {f : Nat → Bool} {k : Nat} (hk : k < n) : inB (nodesB n f) k = f k := by
  rw [Bool.eq_iff_iff, inB_iff, mem_nodesB]
  constructor
  · rintro ⟨i, _, h, e⟩
    have : k = i := by omega
    rw [this]; exact h
  · intro h; exact ⟨k, hk, h, rfl⟩
theorem hasB_rev {l : List (Int × Int)} {a b : Int} : hasB (revL l) b a = hasB l a b := by
  rw [Bool.eq_iff_iff, hasB_iff, hasB_iff, mem_revL]
/-- the graph and its reverse, by their boxes -/
structure TwoG (G H n : Nat) (l : List (Int × Int)) (AL A2 : Option Addr) (cl c2 : Nat) (wr : World) : Prop where
  c0 : wr.cell? ⟨G, 0, none⟩ = some (.int .i64 n)
  c1 : wr.cell? ⟨G, 1, none⟩ = some (.slice AL l.length cl)
  e0 : wr.cell? ⟨H, 0, none⟩ = some (.int .i64 n)
  e1 : wr.cell? ⟨H, 1, none⟩ = some (.slice A2 (revL l).length c2)
  rl : RP wr AL l
  rv : RP wr A2 (revL l)
  tab : Tab wr
theorem TwoG.below {G H n : Nat} {l : List (Int × Int)} {AL A2 : Option Addr} {cl c2 : Nat} {wr w' : World} (h : TwoG G H n l AL A2 cl c2 wr) (hb : Below wr.heap.size wr w') : TwoG G H n l AL A2 cl c2 w' :=
  ⟨(hb.cell (lt_of_cell h.c0)).trans h.c0, (hb.cell (lt_of_cell h.c1)).trans h.c1, (hb.cell (lt_of_cell h.e0)).trans h.e0, (hb.cell (lt_of_cell h.e1)).trans h.e1, h.rl.below hb, h.rv.below hb, h.tab.below hb⟩
def RSs (L : List (List Int)) (v : Value) (w : World) : Prop := ∀ A c, v = .slice A L.length c → RS w A L

set_option maxRecDepth 100000 in
set_option maxHeartbeats 8000000 in
theorem grev_law_any (A : Option Addr) (arg : List Int) (c : Nat) (w : World)
    (hlc : arg.length ≤ c) (hc : c ≤ 9223372036854775807) (hr : RI w A arg) (hx : ∀ x ∈ arg, -9223372036854775808 ≤ x ∧ x ≤ 9223372036854775807) (hT : Tab w) :
    Calls Tryd.prog 6 #[.slice A arg.length c] w (RetB (.bool true) w) := by
  go_enter Tryd.func6, Tryd.ntmps6
  go_wp2_with fail
  refine (new_any A arg c w hlc hc hr hx).mono ?_
  rintro e w1 ⟨p, rfl, hp, hs1, hb1⟩
  clear hr hx
  go_wp2_with fail
  refine (graph_any p 9 w1 hs1 (by omega)).mono ?_
  rintro e w2 ⟨n, l, AL, cl, rfl, hN, hv, hrp, -, -, hg2⟩
  have hb2 : Below w.heap.size w w2 := hb1.trans (below_of_grownBy hg2 hp hb1.size)
  clear hs1 hb1 hg2
  have hn40 := hv.1.1; have hlen := hv.1.2.1
  have hgn : nGn n l = n := by unfold nGn; rw [hv.valE]; rfl
  have hgl : nGl n l = l := by unfold nGl; rw [hv.valE]; rfl
  have hgn2 : nGn n (revL l) = n := by unfold nGn; rw [(revL_vld hv).valE]; rfl
  have hgl2 : nGl n (revL l) = revL l := by unfold nGl; rw [(revL_vld hv).valE]; rfl
  have hvl2 := (revL_vld hv).valE
  have hrr := revL_revL hv
  have Hgn := Lib.hid hgn; have Hgl := Lib.hid hgl; have Hgn2 := Lib.hid hgn2; have Hgl2 := Lib.hid hgl2; have Hvl2 := Lib.hid hvl2; have Hrr := Lib.hid hrr
  have HV := Lib.hid hv
  clear hgn hgl hgn2 hgl2 hvl2 hrr hv
  go_wp2_with fail
  obtain ⟨W0, hW, c0, c1, hb0, hlt0⟩ := boxed w2 24 (.int .i64 n) (.slice AL l.length cl)
  rw [hW]
  clear hW
  have hrev := gReverse_any AL n l cl W0 (hrp.below hb0) hlen
  rw [Hgn.out, Hgl.out] at hrev
  have Hrev := Lib.hid hrev
  have hrp0 := hrp.below hb0
  have hT0 := hT.below (endB hb2 hb0)
  clear hrev hrp
  refine Hrev.out.mono ?_
  rintro e w3 ⟨A2, c2, rfl, hr3, -, hb3⟩
  have c0' := (hb3.cell (lt_of_cell c0)).trans c0
  have c1' := (hb3.cell (lt_of_cell c1)).trans c1
  go_upto_region 4 with fail
  obtain ⟨W4, hW4, e0, e1, hb4, hlt4⟩ := boxed w3 24 (.int .i64 n) (.slice A2 (revL l).length c2)
  rw [hW4]
  clear hW4 Hrev
  have hrl : (revL l).length = l.length := revL_length l
  have Hrl := Lib.hid hrl
  clear hrl
  have hlen2 : (revL l).length ≤ 100000 := by rw [Hrl.out]; exact hlen
  have hst : TwoG w2.heap.size w3.heap.size n l AL A2 cl c2 W4 :=
    ⟨(hb4.cell (lt_of_cell c0')).trans c0', (hb4.cell (lt_of_cell c1')).trans c1', e0, e1, (hrp0.below hb3).below hb4, hr3.below hb4, (hT0.below hb3).below hb4⟩
  have hbw4 := endB (endB (endB hb2 hb0) hb3) hb4
  have Hst := Lib.hid hst
  have Hbw := Lib.hid hbw4
  clear c0 c1 c0' c1' e0 e1 hrp0 hr3 hT0 hb0 hb3 hb4 hb2 hlt0 hlt4 hst hbw4
  generalize w2.heap.size = G at *
  generalize w3.heap.size = H at *
  refine wp_region_textB [1, 3, 4, 5, 7] (SB W4) (fun _ => True) (by kernel_rfl) (by kernel_rfl) (by kernel_rfl) (Below.refl _ _).drew trivial ?_
  repeat (first
    | (refine TxtBL.skip (by rfl) ?_; simp only [Act.put, List.setIfInBounds_toArray, List.set_cons_zero, List.set_cons_succ])
    | (refine TxtBL.take (by rfl) (by rfl) ?_; apply Exists.intro; refine ⟨fun w1 hS1 => ?_, ?_⟩; (focus ((have h1 := (Hst.out.below hS1)); (have g0 := h1.c0); (have g1 := h1.c1); (have g2 := h1.e0); (have g3 := h1.e1); clear h1; go_simp; with_reducible rfl)); simp only [Act.put, List.setIfInBounds_toArray, List.set_cons_zero, List.set_cons_succ])
    | (refine TxtBL.takeE (by rfl) (by rfl) ?_; apply Exists.intro; refine ⟨fun w1 hS1 => ?_, ?_⟩; (focus ((have h1 := (Hst.out.below hS1)); (have g0 := h1.c0); (have g1 := h1.c1); (have g2 := h1.e0); (have g3 := h1.e1); clear h1; go_simp; with_reducible rfl)); simp only [Act.put, List.setIfInBounds_toArray, List.set_cons_zero, List.set_cons_succ]))
  refine TxtBL.call (f := 27) (args := #[.agg #[.int .i64 (n : Int), .slice A2 (revL l).length c2]]) (fun v => ∃ A c, v = .agg #[.int .i64 (n : Int), .slice A l.length c]) (fun v w' => ∀ A c, v = .agg #[.int .i64 (n : Int), .slice A l.length c] → RP w' A l) (by rfl) (by rfl) ⟨_, none, 0, rfl⟩ (fun w1 hS1 hJ1 => by go_simp) (fun w1 hS1 hJ1 => ?_) ?_
  · have h := gReverse_any A2 n (revL l) c2 w1 ((Hst.out).below hS1).rv hlen2
    rw [Hgn2.out, Hgl2.out, Hrr.out] at h
    refine h.mono ?_
    rintro e w' ⟨A5, c5, rfl, hr5, -, hb5⟩
    refine ⟨_, rfl, hS1.trans (hb5.mono hS1.size), ⟨A5, c5, rfl⟩, fun A c e => ?_⟩
    injection e with e; simp at e; rw [← e.1]; exact hr5
  rintro v ⟨A5, c5, rfl⟩
  simp only [Act.put, List.setIfInBounds_toArray, List.set_cons_zero, List.set_cons_succ]
  repeat (first
    | (refine TxtBL.skip (by rfl) ?_; simp only [Act.put, List.setIfInBounds_toArray, List.set_cons_zero, List.set_cons_succ])
    | (refine TxtBL.take (by rfl) (by rfl) ?_; apply Exists.intro; refine ⟨fun w1 hS1 => ?_, ?_⟩; (focus ((have h1 := (Hst.out.below hS1)); (have g0 := h1.c0); (have g1 := h1.c1); (have g2 := h1.e0); (have g3 := h1.e1); clear h1; go_simp; with_reducible rfl)); simp only [Act.put, List.setIfInBounds_toArray, List.set_cons_zero, List.set_cons_succ])
    | (refine TxtBL.takeE (by rfl) (by rfl) ?_; apply Exists.intro; refine ⟨fun w1 hS1 => ?_, ?_⟩; (focus ((have h1 := (Hst.out.below hS1)); (have g0 := h1.c0); (have g1 := h1.c1); (have g2 := h1.e0); (have g3 := h1.e1); clear h1; go_simp; with_reducible rfl)); simp only [Act.put, List.setIfInBounds_toArray, List.set_cons_zero, List.set_cons_succ]))
  refine TxtBL.call (f := 17) (args := #[.agg #[.int .i64 (n : Int), .slice A5 l.length c5], .agg #[.int .i64 (n : Int), .slice AL l.length cl]]) (fun v => v = .bool true) (fun _ _ => True) (by rfl) (by rfl) ⟨_, rfl⟩ (fun w1 hS1 hJ1 => by go_simp) (fun w1 hS1 hJ1 => ?_) ?_
  · have h := r10Same_any A5 AL n n l l c5 cl w1 (hJ1 _ _ rfl) ((Hst.out).below hS1).rl hlen hlen
    rw [sameB_refl] at h
    refine h.mono ?_
    rintro e w' ⟨rfl, hb5⟩
    exact ⟨_, rfl, hS1.trans (hb5.mono hS1.size), rfl, trivial⟩
  rintro v rfl
  simp only [Act.put, List.setIfInBounds_toArray, List.set_cons_zero, List.set_cons_succ]
  repeat (first
    | (refine TxtBL.skip (by rfl) ?_; simp only [Act.put, List.setIfInBounds_toArray, List.set_cons_zero, List.set_cons_succ])
    | (refine TxtBL.take (by rfl) (by rfl) ?_; apply Exists.intro; refine ⟨fun w1 hS1 => ?_, ?_⟩; (focus ((have h1 := (Hst.out.below hS1)); (have g0 := h1.c0); (have g1 := h1.c1); (have g2 := h1.e0); (have g3 := h1.e1); clear h1; go_simp; with_reducible rfl)); simp only [Act.put, List.setIfInBounds_toArray, List.set_cons_zero, List.set_cons_succ])
    | (refine TxtBL.takeE (by rfl) (by rfl) ?_; apply Exists.intro; refine ⟨fun w1 hS1 => ?_, ?_⟩; (focus ((have h1 := (Hst.out.below hS1)); (have g0 := h1.c0); (have g1 := h1.c1); (have g2 := h1.e0); (have g3 := h1.e1); clear h1; go_simp; with_reducible rfl)); simp only [Act.put, List.setIfInBounds_toArray, List.set_cons_zero, List.set_cons_succ]))
  refine TxtBL.call (f := 25) (args := #[.agg #[.int .i64 (n : Int), .slice A2 (revL l).length c2]]) (fun v => v = .int .i64 0) (fun _ _ => True) (by rfl) (by rfl) ⟨_, rfl⟩ (fun w1 hS1 hJ1 => by go_simp) (fun w1 hS1 hJ1 => ?_) ?_
  · have h := gValidate_any A2 n (revL l) c2 w1 ((Hst.out).below hS1).rv hlen2
    rw [Hvl2.out] at h
    refine h.mono ?_
    rintro e w' ⟨rfl, hb5⟩
    exact ⟨_, rfl, hS1.trans (hb5.mono hS1.size), rfl, trivial⟩
  rintro v rfl
  simp only [Act.put, List.setIfInBounds_toArray, List.set_cons_zero, List.set_cons_succ]
  repeat (first
    | (refine TxtBL.skip (by rfl) ?_; simp only [Act.put, List.setIfInBounds_toArray, List.set_cons_zero, List.set_cons_succ])
    | (refine TxtBL.take (by rfl) (by rfl) ?_; apply Exists.intro; refine ⟨fun w1 hS1 => ?_, ?_⟩; (focus (skip; go_simp; with_reducible rfl)); simp only [Act.put, List.setIfInBounds_toArray, List.set_cons_zero, List.set_cons_succ])
    | (refine TxtBL.takeE (by rfl) (by rfl) ?_; apply Exists.intro; refine ⟨fun w1 hS1 => ?_, ?_⟩; (focus (skip; go_simp; with_reducible rfl)); simp only [Act.put, List.setIfInBounds_toArray, List.set_cons_zero, List.set_cons_succ]))
  refine TxtBL.nil (fun W5 hS5 _ => ?_)
  have hst5 := (Hst.out).below hS5
  have hbw5 := endB Hbw.out hS5
  clear Hst Hbw hS5
  go_wp2_with fail
  go_loopw [6] (fun t wr => ∃ i : Nat, i ≤ n ∧ t = .int .i64 i ∧ TwoG G H n l AL A2 cl c2 wr ∧ Below w.heap.size w wr) (fun t _ => n - (intOf t).toNat)
  case atStart => exact ⟨0, Nat.zero_le _, rfl, hst5, hbw5⟩
  case round =>
    clear hst5 hbw5
    obtain ⟨i, hi, rfl, hst, hbw⟩ := hrel
    have c0r := hst.c0
    by_cases hin : i < n
    case pos =>
      have hi0 : (0 : Int) ≤ (i : Int) := by omega
      have hi1 : (i : Int) < (n : Int) := by omega
      have hatt := attacked_revL HV.out (i : Int)
      have hla : (attackersL l (i : Int)).length ≤ 100000 := by unfold attackersL; rw [List.length_map]; exact Nat.le_trans (List.length_filter_le _ _) hlen
      have Hst := Lib.hid hst; have Hatt := Lib.hid hatt; have Hbw := Lib.hid hbw
      clear hatt hst hbw
      obtain ⟨wo, hwo⟩ : ∃ wo, wo = wr := ⟨_, rfl⟩
      subst hwo
      go_upto_region 9 with fail
      refine wp_region_textB [2, 5, 6] (SB wo) (RIs []) (by kernel_rfl) (by kernel_rfl) (by kernel_rfl) (Below.refl _ _).drew (RIs.nil _) ?_
      repeat (first
        | (refine TxtBL.skip (by rfl) ?_; simp only [Act.put, List.setIfInBounds_toArray, List.set_cons_zero, List.set_cons_succ])
        | (refine TxtBL.take (by rfl) (by rfl) ?_; apply Exists.intro; refine ⟨fun w1 hS1 => ?_, ?_⟩; (focus ((have h1 := (Hst.out.below hS1)); (have g0 := h1.c0); (have g1 := h1.c1); (have g2 := h1.e0); (have g3 := h1.e1); clear h1; go_simp; with_reducible rfl)); simp only [Act.put, List.setIfInBounds_toArray, List.set_cons_zero, List.set_cons_succ])
        | (refine TxtBL.takeE (by rfl) (by rfl) ?_; apply Exists.intro; refine ⟨fun w1 hS1 => ?_, ?_⟩; (focus ((have h1 := (Hst.out.below hS1)); (have g0 := h1.c0); (have g1 := h1.c1); (have g2 := h1.e0); (have g3 := h1.e1); clear h1; go_simp; with_reducible rfl)); simp only [Act.put, List.setIfInBounds_toArray, List.set_cons_zero, List.set_cons_succ]))
      refine TxtBL.callI (by rfl) (by rfl) ?_
      apply Exists.intro; apply Exists.intro
      refine ⟨fun w1 hS1 => ?_, ?_⟩
      focus (go_simp; first | with_reducible rfl | exact ⟨rfl, rfl⟩)
      refine ⟨attackersL l (i : Int), fun w1 hS1 hJ1 => ?_, fun Aa ca => ?_⟩
      · exact gAttackers_any AL n l cl (i : Int) w1 ((Hst.out).below hS1).rl HV.out ((Hst.out).below hS1).tab
      simp only [Act.put, List.setIfInBounds_toArray, List.set_cons_zero, List.set_cons_succ]
      repeat (first
        | (refine TxtBL.skip (by rfl) ?_; simp only [Act.put, List.setIfInBounds_toArray, List.set_cons_zero, List.set_cons_succ])
        | (refine TxtBL.take (by rfl) (by rfl) ?_; apply Exists.intro; refine ⟨fun w1 hS1 => ?_, ?_⟩; (focus ((have h1 := (Hst.out.below hS1)); (have g0 := h1.c0); (have g1 := h1.c1); (have g2 := h1.e0); (have g3 := h1.e1); clear h1; go_simp; with_reducible rfl)); simp only [Act.put, List.setIfInBounds_toArray, List.set_cons_zero, List.set_cons_succ])
        | (refine TxtBL.takeE (by rfl) (by rfl) ?_; apply Exists.intro; refine ⟨fun w1 hS1 => ?_, ?_⟩; (focus ((have h1 := (Hst.out.below hS1)); (have g0 := h1.c0); (have g1 := h1.c1); (have g2 := h1.e0); (have g3 := h1.e1); clear h1; go_simp; with_reducible rfl)); simp only [Act.put, List.setIfInBounds_toArray, List.set_cons_zero, List.set_cons_succ]))
      refine TxtBL.callI (by rfl) (by rfl) ?_
      apply Exists.intro; apply Exists.intro
      refine ⟨fun w1 hS1 => ?_, ?_⟩
      focus (go_simp; first | with_reducible rfl | exact ⟨rfl, rfl⟩)
      refine ⟨attackersL l (i : Int), fun w1 hS1 hJ1 => ?_, fun Ab cb => ?_⟩
      · have h := gAttacked_any A2 n (revL l) c2 (i : Int) w1 ((Hst.out).below hS1).rv hlen2 ((Hst.out).below hS1).tab
        rw [Hgl2.out, Hatt.out] at h
        exact h
      simp only [Act.put, List.setIfInBounds_toArray, List.set_cons_zero, List.set_cons_succ]
      repeat (first
        | (refine TxtBL.skip (by rfl) ?_; simp only [Act.put, List.setIfInBounds_toArray, List.set_cons_zero, List.set_cons_succ])
        | (refine TxtBL.take (by rfl) (by rfl) ?_; apply Exists.intro; refine ⟨fun w1 hS1 => ?_, ?_⟩; (focus (skip; go_simp; with_reducible rfl)); simp only [Act.put, List.setIfInBounds_toArray, List.set_cons_zero, List.set_cons_succ])
        | (refine TxtBL.takeE (by rfl) (by rfl) ?_; apply Exists.intro; refine ⟨fun w1 hS1 => ?_, ?_⟩; (focus (skip; go_simp; with_reducible rfl)); simp only [Act.put, List.setIfInBounds_toArray, List.set_cons_zero, List.set_cons_succ]))
      refine TxtBL.callB (by rfl) (by rfl) ?_
      apply Exists.intro; apply Exists.intro
      refine ⟨fun w1 hS1 => ?_, ?_⟩
      focus (go_simp; first | with_reducible rfl | exact ⟨rfl, rfl⟩)
      refine ⟨.bool true, fun w1 hS1 hJ1 => ?_, ?_⟩
      · have h := ints_any Aa Ab (attackersL l (i : Int)) (attackersL l (i : Int)) ca cb w1 (by omega) (by omega) hJ1.tail.head hJ1.head
        rw [show eqB (attackersL l (i : Int)) (attackersL l (i : Int)) = true by rw [eqB_iff]] at h
        exact h.mono fun _ _ h => h.below
      simp only [Act.put, List.setIfInBounds_toArray, List.set_cons_zero, List.set_cons_succ]
      repeat (first
        | (refine TxtBL.skip (by rfl) ?_; simp only [Act.put, List.setIfInBounds_toArray, List.set_cons_zero, List.set_cons_succ])
        | (refine TxtBL.take (by rfl) (by rfl) ?_; apply Exists.intro; refine ⟨fun w1 hS1 => ?_, ?_⟩; (focus (skip; go_simp; with_reducible rfl)); simp only [Act.put, List.setIfInBounds_toArray, List.set_cons_zero, List.set_cons_succ])
        | (refine TxtBL.takeE (by rfl) (by rfl) ?_; apply Exists.intro; refine ⟨fun w1 hS1 => ?_, ?_⟩; (focus (skip; go_simp; with_reducible rfl)); simp only [Act.put, List.setIfInBounds_toArray, List.set_cons_zero, List.set_cons_succ]))
      refine TxtBL.nil (fun W6 hS6 _ => ?_)
      have hst6 := (Hst.out).below hS6
      have hbw6 := endB Hbw.out hS6
      clear Hst Hbw hS6 c0r Hatt
      go_wp2_with fail
      go_loopw [7] (fun t wr => ∃ k : Nat, k ≤ n ∧ t = .int .i64 k ∧ TwoG G H n l AL A2 cl c2 wr ∧ Below w.heap.size w wr) (fun t _ => n - (intOf t).toNat)
      case atStart => exact ⟨0, Nat.zero_le _, rfl, hst6, hbw6⟩
      case round =>
        clear hst6 hbw6
        obtain ⟨k, hk, rfl, hst, hbw⟩ := hrel
        have c0r := hst.c0
        by_cases hkn : k < n
        case pos =>
          have hk0 : (0 : Int) ≤ (k : Int) := by omega
          have hk1 : (k : Int) < (n : Int) := by omega
          have Hst := Lib.hid hst; have Hbw := Lib.hid hbw
          clear hst hbw
          obtain ⟨b1, hb1⟩ : ∃ b, hasB l (i : Int) (k : Int) = b := ⟨_, rfl⟩
          obtain ⟨b2, hb2⟩ : ∃ b, rchB n l i k = b := ⟨_, rfl⟩
          have Hb1 := Lib.hid hb1; have Hb2 := Lib.hid hb2
          clear hb1 hb2
          obtain ⟨wi, hwi⟩ : ∃ wi, wi = wr := ⟨_, rfl⟩
          subst hwi
          go_upto_region 14 with fail
          have hbb1 : (b1 != b1) = false := by simp
          have hbb2 : (b2 != b2) = false := by simp
          refine wp_region_textB [3, 7, 8, 9, 12, 14, 17, 19] (SB wi) (RIs []) (by kernel_rfl) (by kernel_rfl) (by kernel_rfl) (Below.refl _ _).drew (RIs.nil _) ?_
          repeat (first
            | (refine TxtBL.skip (by rfl) ?_; simp only [Act.put, List.setIfInBounds_toArray, List.set_cons_zero, List.set_cons_succ])
            | (refine TxtBL.take (by rfl) (by rfl) ?_; apply Exists.intro; refine ⟨fun w1 hS1 => ?_, ?_⟩; (focus ((have h1 := (Hst.out.below hS1)); (have g0 := h1.c0); (have g1 := h1.c1); (have g2 := h1.e0); (have g3 := h1.e1); clear h1; go_simp; with_reducible rfl)); simp only [Act.put, List.setIfInBounds_toArray, List.set_cons_zero, List.set_cons_succ])
            | (refine TxtBL.takeE (by rfl) (by rfl) ?_; apply Exists.intro; refine ⟨fun w1 hS1 => ?_, ?_⟩; (focus ((have h1 := (Hst.out.below hS1)); (have g0 := h1.c0); (have g1 := h1.c1); (have g2 := h1.e0); (have g3 := h1.e1); clear h1; go_simp; with_reducible rfl)); simp only [Act.put, List.setIfInBounds_toArray, List.set_cons_zero, List.set_cons_succ]))
          refine TxtBL.callB (by rfl) (by rfl) ?_
          apply Exists.intro; apply Exists.intro
          refine ⟨fun w1 hS1 => ?_, ?_⟩
          focus (go_simp; first | with_reducible rfl | exact ⟨rfl, rfl⟩)
          refine ⟨.bool b1, fun w1 hS1 hJ1 => ?_, ?_⟩
          · have h := gHas_any AL n l cl (i : Int) (k : Int) w1 ((Hst.out).below hS1).rl hlen
            rw [Hgl.out, Hb1.out] at h
            exact h
          simp only [Act.put, List.setIfInBounds_toArray, List.set_cons_zero, List.set_cons_succ]
          repeat (first
            | (refine TxtBL.skip (by rfl) ?_; simp only [Act.put, List.setIfInBounds_toArray, List.set_cons_zero, List.set_cons_succ])
            | (refine TxtBL.take (by rfl) (by rfl) ?_; apply Exists.intro; refine ⟨fun w1 hS1 => ?_, ?_⟩; (focus ((have h1 := (Hst.out.below hS1)); (have g0 := h1.c0); (have g1 := h1.c1); (have g2 := h1.e0); (have g3 := h1.e1); clear h1; go_simp; with_reducible rfl)); simp only [Act.put, List.setIfInBounds_toArray, List.set_cons_zero, List.set_cons_succ])
            | (refine TxtBL.takeE (by rfl) (by rfl) ?_; apply Exists.intro; refine ⟨fun w1 hS1 => ?_, ?_⟩; (focus ((have h1 := (Hst.out.below hS1)); (have g0 := h1.c0); (have g1 := h1.c1); (have g2 := h1.e0); (have g3 := h1.e1); clear h1; go_simp; with_reducible rfl)); simp only [Act.put, List.setIfInBounds_toArray, List.set_cons_zero, List.set_cons_succ]))
          refine TxtBL.callB (by rfl) (by rfl) ?_
          apply Exists.intro; apply Exists.intro
          refine ⟨fun w1 hS1 => ?_, ?_⟩
          focus (go_simp; first | with_reducible rfl | exact ⟨rfl, rfl⟩)
          refine ⟨.bool b1, fun w1 hS1 hJ1 => ?_, ?_⟩
          · have h := gHas_any A2 n (revL l) c2 (k : Int) (i : Int) w1 ((Hst.out).below hS1).rv hlen2
            rw [Hgl2.out, hasB_rev, Hb1.out] at h
            exact h
          simp only [Act.put, List.setIfInBounds_toArray, List.set_cons_zero, List.set_cons_succ]
          repeat (first
            | (refine TxtBL.skip (by rfl) ?_; simp only [Act.put, List.setIfInBounds_toArray, List.set_cons_zero, List.set_cons_succ])
            | (refine TxtBL.take (by rfl) (by rfl) ?_; apply Exists.intro; refine ⟨fun w1 hS1 => ?_, ?_⟩; (focus ((have h1 := (Hst.out.below hS1)); (have g0 := h1.c0); (have g1 := h1.c1); (have g2 := h1.e0); (have g3 := h1.e1); clear h1; go_simp; with_reducible rfl)); simp only [Act.put, List.setIfInBounds_toArray, List.set_cons_zero, List.set_cons_succ])
            | (refine TxtBL.takeE (by rfl) (by rfl) ?_; apply Exists.intro; refine ⟨fun w1 hS1 => ?_, ?_⟩; (focus ((have h1 := (Hst.out.below hS1)); (have g0 := h1.c0); (have g1 := h1.c1); (have g2 := h1.e0); (have g3 := h1.e1); clear h1; go_simp; with_reducible rfl)); simp only [Act.put, List.setIfInBounds_toArray, List.set_cons_zero, List.set_cons_succ]))
          refine TxtBL.callI (by rfl) (by rfl) ?_
          apply Exists.intro; apply Exists.intro
          refine ⟨fun w1 hS1 => ?_, ?_⟩
          focus (go_simp; first | with_reducible rfl | exact ⟨rfl, rfl⟩)
          refine ⟨nodesB n (reachM n l i).testBit, fun w1 hS1 hJ1 => ?_, fun Aa ca => ?_⟩
          · have h := gReach_any AL n l cl (i : Int) w1 ((Hst.out).below hS1).rl hlen ((Hst.out).below hS1).tab
            rw [Hgn.out, Hgl.out, Int.toNat_natCast, reachL_in hin] at h
            exact h
          simp only [Act.put, List.setIfInBounds_toArray, List.set_cons_zero, List.set_cons_succ]
          repeat (first
            | (refine TxtBL.skip (by rfl) ?_; simp only [Act.put, List.setIfInBounds_toArray, List.set_cons_zero, List.set_cons_succ])
            | (refine TxtBL.take (by rfl) (by rfl) ?_; apply Exists.intro; refine ⟨fun w1 hS1 => ?_, ?_⟩; (focus (skip; go_simp; with_reducible rfl)); simp only [Act.put, List.setIfInBounds_toArray, List.set_cons_zero, List.set_cons_succ])
            | (refine TxtBL.takeE (by rfl) (by rfl) ?_; apply Exists.intro; refine ⟨fun w1 hS1 => ?_, ?_⟩; (focus (skip; go_simp; with_reducible rfl)); simp only [Act.put, List.setIfInBounds_toArray, List.set_cons_zero, List.set_cons_succ]))
          refine TxtBL.callB (by rfl) (by rfl) ?_
          apply Exists.intro; apply Exists.intro
          refine ⟨fun w1 hS1 => ?_, ?_⟩
          focus (go_simp; first | with_reducible rfl | exact ⟨rfl, rfl⟩)
          refine ⟨.bool b2, fun w1 hS1 hJ1 => ?_, ?_⟩
          · have h := in_any Aa (nodesB n (reachM n l i).testBit) ca (k : Int) w1 (by have := nodesB_length n (reachM n l i).testBit; omega) hJ1.head
            rw [inB_nodes1 hkn, show (reachM n l i).testBit k = rchB n l i k from rfl, Hb2.out] at h
            exact h.mono fun _ _ h => ⟨h.1, by rw [h.2]; exact Below.refl _ _⟩
          simp only [Act.put, List.setIfInBounds_toArray, List.set_cons_zero, List.set_cons_succ]
          repeat (first
            | (refine TxtBL.skip (by rfl) ?_; simp only [Act.put, List.setIfInBounds_toArray, List.set_cons_zero, List.set_cons_succ])
            | (refine TxtBL.take (by rfl) (by rfl) ?_; apply Exists.intro; refine ⟨fun w1 hS1 => ?_, ?_⟩; (focus ((have h1 := (Hst.out.below hS1)); (have g0 := h1.c0); (have g1 := h1.c1); (have g2 := h1.e0); (have g3 := h1.e1); clear h1; go_simp; with_reducible rfl)); simp only [Act.put, List.setIfInBounds_toArray, List.set_cons_zero, List.set_cons_succ])
            | (refine TxtBL.takeE (by rfl) (by rfl) ?_; apply Exists.intro; refine ⟨fun w1 hS1 => ?_, ?_⟩; (focus ((have h1 := (Hst.out.below hS1)); (have g0 := h1.c0); (have g1 := h1.c1); (have g2 := h1.e0); (have g3 := h1.e1); clear h1; go_simp; with_reducible rfl)); simp only [Act.put, List.setIfInBounds_toArray, List.set_cons_zero, List.set_cons_succ]))
          refine TxtBL.callI (by rfl) (by rfl) ?_
          apply Exists.intro; apply Exists.intro
          refine ⟨fun w1 hS1 => ?_, ?_⟩
          focus (go_simp; first | with_reducible rfl | exact ⟨rfl, rfl⟩)
          refine ⟨nodesB n (reachM n (revL l) k).testBit, fun w1 hS1 hJ1 => ?_, fun Ab cb => ?_⟩
          · have h := gReach_any A2 n (revL l) c2 (k : Int) w1 ((Hst.out).below hS1).rv hlen2 ((Hst.out).below hS1).tab
            rw [Hgn2.out, Hgl2.out, Int.toNat_natCast, reachL_in hkn] at h
            exact h
          simp only [Act.put, List.setIfInBounds_toArray, List.set_cons_zero, List.set_cons_succ]
          repeat (first
            | (refine TxtBL.skip (by rfl) ?_; simp only [Act.put, List.setIfInBounds_toArray, List.set_cons_zero, List.set_cons_succ])
            | (refine TxtBL.take (by rfl) (by rfl) ?_; apply Exists.intro; refine ⟨fun w1 hS1 => ?_, ?_⟩; (focus (skip; go_simp; with_reducible rfl)); simp only [Act.put, List.setIfInBounds_toArray, List.set_cons_zero, List.set_cons_succ])
            | (refine TxtBL.takeE (by rfl) (by rfl) ?_; apply Exists.intro; refine ⟨fun w1 hS1 => ?_, ?_⟩; (focus (skip; go_simp; with_reducible rfl)); simp only [Act.put, List.setIfInBounds_toArray, List.set_cons_zero, List.set_cons_succ]))
          refine TxtBL.callB (by rfl) (by rfl) ?_
          apply Exists.intro; apply Exists.intro
          refine ⟨fun w1 hS1 => ?_, ?_⟩
          focus (go_simp; first | with_reducible rfl | exact ⟨rfl, rfl⟩)
          refine ⟨.bool b2, fun w1 hS1 hJ1 => ?_, ?_⟩
          · have h := in_any Ab (nodesB n (reachM n (revL l) k).testBit) cb (i : Int) w1 (by have := nodesB_length n (reachM n (revL l) k).testBit; omega) hJ1.head
            rw [inB_nodes1 hin, show (reachM n (revL l) k).testBit i = rchB n (revL l) k i from rfl, rch_rev HV.out hkn hin, Hb2.out] at h
            exact h.mono fun _ _ h => ⟨h.1, by rw [h.2]; exact Below.refl _ _⟩
          simp only [Act.put, List.setIfInBounds_toArray, List.set_cons_zero, List.set_cons_succ]
          repeat (first
            | (refine TxtBL.skip (by rfl) ?_; simp only [Act.put, List.setIfInBounds_toArray, List.set_cons_zero, List.set_cons_succ])
            | (refine TxtBL.take (by rfl) (by rfl) ?_; apply Exists.intro; refine ⟨fun w1 hS1 => ?_, ?_⟩; (focus (skip; go_simp; with_reducible rfl)); simp only [Act.put, List.setIfInBounds_toArray, List.set_cons_zero, List.set_cons_succ])
            | (refine TxtBL.takeE (by rfl) (by rfl) ?_; apply Exists.intro; refine ⟨fun w1 hS1 => ?_, ?_⟩; (focus (skip; go_simp; with_reducible rfl)); simp only [Act.put, List.setIfInBounds_toArray, List.set_cons_zero, List.set_cons_succ]))
          refine TxtBL.nil (fun W7 hS7 _ => ?_)
          have hst7 := (Hst.out).below hS7
          have hbw7 := endB Hbw.out hS7
          clear Hst Hbw hS7 c0r hbb1 hbb2
          go_wp2_with fail
          go_roundw
          case rel => exact ⟨k + 1, by omega, by go_num, hst7, hbw7⟩
          case measure => simp [intOf]; omega
        case neg =>
          go_wp2_with fail
          go_roundw
          case rel => exact ⟨i + 1, by omega, by go_num, hst, hbw⟩
          case measure => simp [intOf]; omega
    case neg =>
    have Hst := Lib.hid hst; have Hbw := Lib.hid hbw
    clear hst hbw
    obtain ⟨wo, hwo⟩ : ∃ wo, wo = wr := ⟨_, rfl⟩
    subst hwo
    go_upto_region 16 with fail
    have hperm := comps_rev HV.out
    have hlE : (compsL n (revL l)).length = (compsL n l).length := hperm.length_eq
    have hmem : ∀ c, c ∈ compsL n l → c ∈ compsL n (revL l) := fun c h => hperm.symm.mem_iff.1 h
    have hin64 : ∀ L : List (Int × Int), ∀ c ∈ compsL n L, c.length ≤ 64 := fun L c h => by
      unfold compsL at h
      obtain ⟨m, _, rfl⟩ := List.mem_map.1 h
      exact nodesB_length 64 _
    have hlen1 : (compsL n l).length ≤ n := by unfold compsL; rw [List.length_map]; exact compsF_len n l n _
    have HlE := Lib.hid hlE; have Hmem := Lib.hid hmem; have H64a := Lib.hid (hin64 l); have H64b := Lib.hid (hin64 (revL l))
    have hc1 := fun (w1 : World) (hS1 : SB wo w1) => gComponents_any AL n l cl w1 ((Hst.out).below hS1).rl hlen ((Hst.out).below hS1).tab
    have hc2 := fun (w1 : World) (hS1 : SB wo w1) => gComponents_any A2 n (revL l) c2 w1 ((Hst.out).below hS1).rv hlen2 ((Hst.out).below hS1).tab
    rw [Hgn.out, Hgl.out, Int.toNat_natCast] at hc1
    rw [Hgn2.out, Hgl2.out, Int.toNat_natCast] at hc2
    have Hc1 := Lib.hid hc1; have Hc2 := Lib.hid hc2
    clear hperm hlE hmem hin64 hc1 hc2
    generalize compsL n l = L1 at *
    generalize compsL n (revL l) = L2 at *
    have hL2n : L2.length ≤ 1000 := by rw [HlE.out]; omega
    refine wp_region_textB [1, 3] (SB wo) (fun _ => True) (by kernel_rfl) (by kernel_rfl) (by kernel_rfl) (Below.refl _ _).drew trivial ?_
    repeat (first
      | (refine TxtBL.skip (by rfl) ?_; simp only [Act.put, List.setIfInBounds_toArray, List.set_cons_zero, List.set_cons_succ])
      | (refine TxtBL.take (by rfl) (by rfl) ?_; apply Exists.intro; refine ⟨fun w1 hS1 => ?_, ?_⟩; (focus ((have h1 := (Hst.out.below hS1)); (have g0 := h1.c0); (have g1 := h1.c1); (have g2 := h1.e0); (have g3 := h1.e1); clear h1; go_simp; with_reducible rfl)); simp only [Act.put, List.setIfInBounds_toArray, List.set_cons_zero, List.set_cons_succ])
      | (refine TxtBL.takeE (by rfl) (by rfl) ?_; apply Exists.intro; refine ⟨fun w1 hS1 => ?_, ?_⟩; (focus ((have h1 := (Hst.out.below hS1)); (have g0 := h1.c0); (have g1 := h1.c1); (have g2 := h1.e0); (have g3 := h1.e1); clear h1; go_simp; with_reducible rfl)); simp only [Act.put, List.setIfInBounds_toArray, List.set_cons_zero, List.set_cons_succ]))
    refine TxtBL.call (f := 15) (args := #[.agg #[.int .i64 (n : Int), .slice AL l.length cl]]) (fun v => ∃ A c, v = .slice A L1.length c) (fun v w' => RSs L1 v w') (by rfl) (by rfl) ⟨_, none, 0, rfl⟩ (fun w1 hS1 hJ1 => by go_simp) (fun w1 hS1 hJ1 => ?_) ?_
    · refine (Hc1.out w1 hS1).mono ?_
      rintro e w' ⟨A5, c5, rfl, hrs, -, hb5⟩
      exact ⟨_, rfl, hS1.trans (hb5.mono hS1.size), ⟨A5, c5, rfl⟩, fun A c e => by injection e with e1; rw [← e1]; exact hrs.rs⟩
    rintro v ⟨A5, c5, rfl⟩
    simp only [Act.put, List.setIfInBounds_toArray, List.set_cons_zero, List.set_cons_succ]
    repeat (first
      | (refine TxtBL.skip (by rfl) ?_; simp only [Act.put, List.setIfInBounds_toArray, List.set_cons_zero, List.set_cons_succ])
      | (refine TxtBL.take (by rfl) (by rfl) ?_; apply Exists.intro; refine ⟨fun w1 hS1 => ?_, ?_⟩; (focus ((have h1 := (Hst.out.below hS1)); (have g0 := h1.c0); (have g1 := h1.c1); (have g2 := h1.e0); (have g3 := h1.e1); clear h1; go_simp; with_reducible rfl)); simp only [Act.put, List.setIfInBounds_toArray, List.set_cons_zero, List.set_cons_succ])
      | (refine TxtBL.takeE (by rfl) (by rfl) ?_; apply Exists.intro; refine ⟨fun w1 hS1 => ?_, ?_⟩; (focus ((have h1 := (Hst.out.below hS1)); (have g0 := h1.c0); (have g1 := h1.c1); (have g2 := h1.e0); (have g3 := h1.e1); clear h1; go_simp; with_reducible rfl)); simp only [Act.put, List.setIfInBounds_toArray, List.set_cons_zero, List.set_cons_succ]))
    refine TxtBL.call (f := 15) (args := #[.agg #[.int .i64 (n : Int), .slice A2 (revL l).length c2]]) (fun v => ∃ A c, v = .slice A L2.length c) (fun v w' => RSs L1 (.slice A5 L1.length c5) w' ∧ RSs L2 v w') (by rfl) (by rfl) ⟨_, none, 0, rfl⟩ (fun w1 hS1 hJ1 => by go_simp) (fun w1 hS1 hJ1 => ?_) ?_
    · refine (Hc2.out w1 hS1).mono ?_
      rintro e w' ⟨A6, c6, rfl, hrs, -, hb5⟩
      exact ⟨_, rfl, hS1.trans (hb5.mono hS1.size), ⟨A6, c6, rfl⟩, fun A c e => (hJ1 A c e).below hb5, fun A c e => by injection e with e1; rw [← e1]; exact hrs.rs⟩
    rintro v ⟨A6, c6, rfl⟩
    simp only [Act.put, List.setIfInBounds_toArray, List.set_cons_zero, List.set_cons_succ]
    repeat (first
      | (refine TxtBL.skip (by rfl) ?_; simp only [Act.put, List.setIfInBounds_toArray, List.set_cons_zero, List.set_cons_succ])
      | (refine TxtBL.take (by rfl) (by rfl) ?_; apply Exists.intro; refine ⟨fun w1 hS1 => ?_, ?_⟩; (focus (skip; go_simp; with_reducible rfl)); simp only [Act.put, List.setIfInBounds_toArray, List.set_cons_zero, List.set_cons_succ])
      | (refine TxtBL.takeE (by rfl) (by rfl) ?_; apply Exists.intro; refine ⟨fun w1 hS1 => ?_, ?_⟩; (focus (skip; go_simp; with_reducible rfl)); simp only [Act.put, List.setIfInBounds_toArray, List.set_cons_zero, List.set_cons_succ]))
    refine TxtBL.nil (fun W7 hS7 hJ7 => ?_)
    have hrs1 := hJ7.1 _ _ rfl
    have hrs2 := hJ7.2 _ _ rfl
    have hT7 := ((Hst.out).below hS7).tab
    have hbw7 := endB Hbw.out hS7
    have hd : ((L1.length : Int) != (L2.length : Int)) = false := by rw [bne_eq_false_iff_eq, HlE.out]
    clear Hst Hbw hS7 hJ7 Hc1 Hc2 c0r
    go_wp2_with fail
    clear hd
    go_loopw [84] (fun t wr => ∃ q : Nat, q ≤ L1.length ∧ t = .int .i64 q ∧ Below W7.heap.size W7 wr) (fun t _ => L1.length - (intOf t).toNat)
    case atStart => exact ⟨0, Nat.zero_le _, rfl, Below.refl _ _⟩
    case round =>
      obtain ⟨q, hq, rfl, hbl⟩ := hrel
      by_cases hqL : q < L1.length
      case pos =>
        obtain ⟨b8, o8, A8, c8, rfl, hc8, hr8⟩ := (hrs1.below hbl).at_ hqL
        have hm8 := Hmem.out _ (List.getElem_mem hqL)
        have hl8 := H64a.out _ (List.getElem_mem hqL)
        have hqL' : (q : Int) < (L1.length : Int) := by omega
        have hr8' : ∀ w', Below wr.heap.size wr w' → RI w' A8 L1[q] := fun w' h => hr8.below h
        have Hm8 := Lib.hid hm8; have Hr8 := Lib.hid hr8'
        clear hm8 hr8 hr8'
        generalize L1[q] = x8 at *
        obtain ⟨wi, hwi⟩ : ∃ wi, wi = wr := ⟨_, rfl⟩
        subst hwi
        go_wp2_with fail
        clear hc8
        go_loopw [12, 90] (fun f t wr => ∃ k : Nat, k ≤ L2.length ∧ t = .int .i64 k ∧ f = .bool ((L2.take k).any fun y => eqB x8 y) ∧ Below wi.heap.size wi wr) (fun _ t _ => L2.length - (intOf t).toNat)
        case atStart => exact ⟨0, Nat.zero_le _, rfl, by simp, Below.refl _ _⟩
        case round =>
          obtain ⟨k, hk, rfl, rfl, hbk⟩ := hrel
          by_cases hkL : k < L2.length
          case pos =>
            obtain ⟨b9, o9, A9, c9, rfl, hc9, hr9⟩ := ((hrs2.below hbl).below hbk).at_ hkL
            have hl9 := H64b.out _ (List.getElem_mem hkL)
            have hkL' : (k : Int) < (L2.length : Int) := by omega
            have hstp := any_stepY (fun y => eqB x8 y) L2 hkL
            have Hstp := Lib.hid hstp
            have hint := ints_any A8 A9 x8 L2[k] c8 c9 wr (by omega) (by omega) (Hr8.out wr hbk) hr9
            have Hint := Lib.hid hint
            clear hstp hint hr9
            generalize L2[k] = x9 at *
            obtain ⟨b, hb⟩ : ∃ b, ((L2.take k).any fun y => eqB x8 y) = b := ⟨_, rfl⟩
            rw [hb]
            have Hb := Lib.hid hb
            clear hb
            cases b
            case false =>
              go_wp2_with fail
              refine Hint.out.mono ?_
              rintro e w9 ⟨rfl, nq, rfl⟩
              have hbk2 := below_drewN hbk nq
              clear hc9
              go_wp2_with fail
              go_roundw
              case rel => exact ⟨k + 1, by omega, by go_num, by rw [Hstp.out, Hb.out, Bool.false_or], hbk2⟩
              case measure => simp [intOf]; omega
            case true =>
              go_wp2_with fail
              go_roundw
              case rel => exact ⟨k + 1, by omega, by go_num, by rw [Hstp.out, Hb.out, Bool.true_or], hbk⟩
              case measure => simp [intOf]; omega
          case neg =>
            obtain rfl : k = L2.length := by omega
            have hany : ((L2.take L2.length).any fun y => eqB x8 y) = true := by
              rw [List.take_length, List.any_eq_true]
              exact ⟨x8, Hm8.out, by rw [eqB_iff]⟩
            rw [hany]
            clear hany
            have hbq := endB hbl hbk
            go_wp2_with fail
            go_roundw
            case rel => exact ⟨q + 1, by omega, by go_num, hbq⟩
            case measure => simp [intOf]; omega
      case neg =>
        have haw := awake10_any wr (hT7.below hbl)
        have Haw := Lib.hid haw
        clear haw
        go_wp2_with fail
        refine Haw.out.mono ?_
        rintro e w11 ⟨rfl, hb11⟩
        go_wp2_with fail
        go_ret
        exact ⟨rfl, endB (endB hbw7 hbl) hb11⟩
end Go.Proofs.YtkflanjlnbdkmaaDoor
