import Derived.Test.YtncimnfhfomddaaDoorRdW
import Derived.Test.YtncimnfhfomddaaDoorStkW
import Derived.Test.YtncimnfhfomddaaDoorLoW
import Derived.Test.YtncimnfhfomddaaDoorNpW
import Derived.Test.YtncimnfhfomddaaDoorRtW
import Derived.Test.YtncimnfhfomddaaDoorPaW
import Derived.Test.YtncimnfhfomddaaDoorLov
/- ref21.Duties. -/
namespace Go.Proofs.YtncimnfhfomddaaDoor
open Go.ChangeShapes Go.WideShapes Go.ChangeAt Go.RowKit

theorem dutAR_step {s : List Int} {G : List (Int × Int)} {k : Nat} (hk : k < G.length) : dutAR (G.take (k + 1)) s = if inB s G[k].1 && inB s G[k].2 then dutAR (G.take k) s ++ [[G[k]]] else dutAR (G.take k) s := by
  unfold dutAR
  rw [List.take_succ_eq_append_getElem hk, List.filter_append, List.map_append]
  cases h : (inB s G[k].1 && inB s G[k].2) <;> simp [h]
theorem dutAR_len (G : List (Int × Int)) (s : List Int) : (dutAR G s).length ≤ G.length := by unfold dutAR; rw [List.length_map]; exact List.length_filter_le ..
def dutBR (G : List (Int × Int)) (s : List Int) (kind : Int) (k : Nat) : List (List (Int × Int)) := ((List.range k).filter fun a => oweR G s kind (a : Nat)).map fun a => dyR G kind (a : Nat) s
theorem dutBR_step {G : List (Int × Int)} {s : List Int} {kind : Int} {k : Nat} : dutBR G s kind (k + 1) = if oweR G s kind (k : Nat) then dutBR G s kind k ++ [dyR G kind (k : Nat) s] else dutBR G s kind k := by
  unfold dutBR
  rw [List.range_succ, List.filter_append, List.map_append]
  cases h : oweR G s kind (k : Nat) <;> simp [h]
theorem dutBR_len (G : List (Int × Int)) (s : List Int) (kind : Int) (k : Nat) : (dutBR G s kind k).length ≤ k := by unfold dutBR; rw [List.length_map]; exact Nat.le_trans (List.length_filter_le ..) (by simp)
theorem hosR_snoc (G : List (Int × Int)) (kind a : Int) (s : List Int) (x : Int) : hosR G kind a (s ++ [x]) = (hosR G kind a s || (decide (kind = 1) && hasB G a x)) := by
  unfold hosR
  rw [List.any_append]
  simp [Bool.or_assoc]
/-- slices that fit their capacities -/
def FitX (xs : List Value) : Prop := ∀ v ∈ xs, ∃ A n c, v = Value.slice A n c ∧ (A = none → n = 0 ∧ c = 0) ∧ n ≤ c
theorem FitX.nil : FitX [] := fun v h => by cases h
theorem FitX.snoc {xs : List Value} {A : Option Addr} {n c : Nat} (h : FitX xs) (h1 : A = none → n = 0 ∧ c = 0) (h2 : n ≤ c) : FitX (xs ++ [.slice A n c]) := fun v hv => by
  rcases List.mem_append.1 hv with hv | hv
  · exact h v hv
  · rw [List.mem_singleton] at hv
    exact ⟨A, n, c, hv, h1, h2⟩
/-- the call returns lists of pairs, which fit -/
def RetTF (L : List (List (Int × Int))) (w : World) : Ending → World → Prop := fun e w' => ∃ A c xs, e = .returned (.slice A L.length c) ∧ OwnTS w' w.heap.size (.slice A L.length c) xs ∧ OwnTL w' w.heap.size xs L ∧ FitX xs ∧ RTo w' A L ∧ Below w.heap.size w w'
set_option maxRecDepth 100000 in
set_option maxHeartbeats 8000000 in
theorem rDuties_any (A : Option Addr) (n : Nat) (G : List (Int × Int)) (c : Nat) (Bs : Option Addr) (s : List Int) (cs : Nat) (kind : Int) (w : World) (hr : RP w A G) (hl : G.length ≤ 100000) (hs : RI w Bs s) (hls : s.length ≤ 1000) (hn : n ≤ 1000) :
    Calls Tryd.prog 47 #[.agg #[.int .i64 (n : Int), .slice A G.length c], .slice Bs s.length cs, .int .i64 kind] w (RetTF (dutR n G s kind) w) := by
  have e1 : (kind == 1) = decide (kind = 1) := by by_cases h : kind = 1 <;> simp [h]
  have e2 : (kind == 2) = decide (kind = 2) := by by_cases h : kind = 2 <;> simp [h]
  obtain ⟨q1, hq1⟩ : ∃ b, decide (kind = 1) = b := ⟨_, rfl⟩
  obtain ⟨q2, hq2⟩ : ∃ b, decide (kind = 2) = b := ⟨_, rfl⟩
  rw [hq1] at e1
  rw [hq2] at e2
  have Hq1 := Lib.hid hq1; have Hq2 := Lib.hid hq2
  clear hq1 hq2
  go_enter Tryd.func47, Tryd.ntmps47
  go_upto_region 1 with fail
  obtain ⟨W0, hW, k0, hb0, hs0⟩ := boxG w (n : Int) A G.length c
  rw [hW]
  clear hW hs0
  go_wp2_with fail
  go_loopw [7, 8] (fun v i wr => ∃ (k : Nat) (xs : List Value), k ≤ G.length ∧ i = .int .i64 (k : Int) ∧ OwnTS wr W0.heap.size v xs ∧ OwnTL wr W0.heap.size xs (dutAR (G.take k) s) ∧ FitX xs ∧ Below W0.heap.size W0 wr) (fun _ i _ => G.length - (intOf i).toNat)
  case atStart => exact ⟨0, [], Nat.zero_le _, rfl, OwnTS.nil _ _, OwnTL.nil _ _, FitX.nil, Below.refl _ _⟩
  case round =>
    obtain ⟨k, xs, hk, rfl, hown, htl, hfx, hbw⟩ := hrel
    have Hfx := Lib.hid hfx
    clear hfx
    have Hown := Lib.hid hown; have Htl := Lib.hid htl
    have hlen : xs.length = (dutAR (G.take k) s).length := htl.1
    have hxl : xs.length ≤ 100000 := by have := dutAR_len (G.take k) s; rw [List.length_take] at this; omega
    have k1 := k0.below hbw k0.lt
    obtain ⟨c0, c1, _, _⟩ := k1.two
    have hbX := endB hb0 hbw
    clear hown htl hlen
    by_cases hlt : k < G.length
    case pos =>
      have hst := dutAR_step (s := s) hlt
      obtain ⟨b, o, rfl, d0, d1⟩ := (hr.below hbX).at_ hlt
      obtain ⟨p, hp⟩ : ∃ p, G[k] = p := ⟨_, rfl⟩
      rw [hp] at d0 d1 hst
      obtain ⟨x, y⟩ := p
      have h1 := nwIn_any Bs s cs x wr (hs.below hbX) (by omega)
      have h2 := nwIn_any Bs s cs y wr (hs.below hbX) (by omega)
      obtain ⟨b1, hb1⟩ : ∃ b1, inB s x = b1 := ⟨_, rfl⟩
      obtain ⟨b2, hb2⟩ : ∃ b2, inB s y = b2 := ⟨_, rfl⟩
      simp only [hb1, hb2] at hst
      rw [hb1] at h1
      rw [hb2] at h2
      have Hst := Lib.hid hst; have H1 := Lib.hid h1; have H2 := Lib.hid h2
      clear hst h1 h2 hp hb1 hb2
      go_wp2_with fail
      refine H1.out.mono ?_
      rintro e w1 ⟨rfl, rfl⟩
      cases b1
      case false =>
        have hst := Hst.out
        rw [Bool.false_and, if_neg (by decide)] at hst
        have Hst := Lib.hid hst
        clear hst
        go_wp2_with fail
        go_roundw
        case rel => exact ⟨k + 1, xs, hlt, by go_num, Hown.out, by rw [Hst.out]; exact Htl.out, Hfx.out, hbw⟩
        case measure => simp [intOf]; omega
      case true =>
        go_wp2_with fail
        refine H2.out.mono ?_
        rintro e w2 ⟨rfl, hww⟩
        subst hww
        cases b2
        case false =>
          have hst := Hst.out
          rw [Bool.and_false, if_neg (by decide)] at hst
          have Hst := Lib.hid hst
          clear hst
          go_wp2_with fail
          go_roundw
          case rel => exact ⟨k + 1, xs, hlt, by go_num, Hown.out, by rw [Hst.out]; exact Htl.out, Hfx.out, hbw⟩
          case measure => simp [intOf]; omega
        case true =>
          have hst := Hst.out
          rw [Bool.and_self, if_pos rfl] at hst
          have Hst := Lib.hid hst
          clear hst
          obtain ⟨W1, hWW⟩ : ∃ W1, W1 = wr := ⟨_, rfl⟩
          subst hWW
          obtain ⟨W5, hW5, hone, hb5, hs5⟩ : ∃ W5, W1.alloc (.cells #[.int .i64 x, .int .i64 y] 42) = W5 ∧ OwnP W5 W0.heap.size (.slice (some ⟨W1.heap.size, 0, none⟩) 1 1) [(x, y)] ∧ Below W1.heap.size W1 W5 ∧ W5.heap.size = W1.heap.size + 1 :=
            ⟨_, rfl, own_oneP W1 (x, y) _ hbw.size, newB _ _, by simp⟩
          have Hown5 := Lib.hid (ownsRow_below Hown.out hb5 : OwnTS W5 W0.heap.size _ xs)
          have Htl5 := Lib.hid ((Htl.out.below hb5).snoc (c := 1) (RPt.of_own (c := 1) (l := [(x, y)]) hone))
          have hbw5 := hbw.trans (hb5.mono hbw.size)
          have hD5 := hbw5.size
          clear hb5 hone
          go_wp2_with (at_builtin; go_loud (refine wpList_appT (by rfl) _ _ (by rfl) W5 W0.heap.size _ xs (some ⟨W1.heap.size, 0, none⟩) 1 1 Hown5.out (by rfl) (by rfl) (by omega) (by omega) hD5 ?_); intro v' w6 hown6 hb6 hg6; have Hown6 := Lib.hid hown6; clear hown6)
          go_roundw
          case rel => exact ⟨k + 1, _, hlt, by go_num, Hown6.out, by rw [Hst.out]; exact Htl5.out.append Hown5.out hg6, Hfx.out.snoc (fun e => by cases e) (Nat.le_refl _), hbw5.trans hb6⟩
          case measure => simp [intOf]; omega
    case neg =>
    obtain rfl : k = G.length := by omega
    have htl := Htl.out
    rw [List.take_length] at htl
    have Htl := Lib.hid htl
    have htl0 : OwnTL wr W0.heap.size xs (dutAR G s ++ dutBR G s kind 0) := by
      show OwnTL wr W0.heap.size xs (dutAR G s ++ [])
      rw [List.append_nil]; exact htl
    have Htl0 := Lib.hid htl0
    clear htl htl0 Htl
    go_wp2_with fail
    go_loopw [7, 9] (fun v i wr => ∃ (a : Nat) (xs : List Value), a ≤ n ∧ i = .int .i64 (a : Int) ∧ OwnTS wr W0.heap.size v xs ∧ OwnTL wr W0.heap.size xs (dutAR G s ++ dutBR G s kind a) ∧ FitX xs ∧ Below W0.heap.size W0 wr) (fun _ i _ => n - (intOf i).toNat)
    case atStart => exact ⟨0, xs, Nat.zero_le _, rfl, Hown.out, Htl0.out, Hfx.out, hbw⟩
    case round =>
      clear Htl0 Hown hbw hbX c0 c1 k1 hxl hk hlt Hfx
      obtain ⟨a, xs, ha, rfl, hown, htl, hfx, hbw⟩ := hrel
      have Hfx := Lib.hid hfx
      clear hfx
      have Hown := Lib.hid hown; have Htl := Lib.hid htl
      have hxl : xs.length ≤ 200000 := by
        have h1 := htl.1
        have h2 := dutAR_len G s
        have h3 := dutBR_len G s kind a
        rw [List.length_append] at h1
        omega
      have k1 := k0.below hbw k0.lt
      obtain ⟨c0, c1, _, _⟩ := k1.two
      have hbX := endB hb0 hbw
      clear hown htl
      by_cases hlt : a < n
      case pos =>
        have hst := dutBR_step (G := G) (s := s) (kind := kind) (k := a)
        have Hst := Lib.hid hst
        clear hst
        go_wp2_with fail
        obtain ⟨wo, hwo⟩ : ∃ wo, wo = wr := ⟨_, rfl⟩
        subst hwo
        go_loopw [10, 11, 12] (fun v h i wr => ∃ (k : Nat), k ≤ s.length ∧ i = .int .i64 (k : Int) ∧ h = .bool (hosR G kind (a : Int) (s.take k)) ∧ OwnP wr wo.heap.size v (dyR G kind (a : Int) (s.take k)) ∧ Below wo.heap.size wo wr) (fun _ _ i _ => s.length - (intOf i).toNat)
        case atStart => exact ⟨0, Nat.zero_le _, rfl, by rw [List.take_zero]; unfold hosR; rw [Hq2.out]; simp, OwnP.nil _ _, Below.refl _ _⟩
        case round =>
          obtain ⟨k, hk, rfl, rfl, hdo, hb2⟩ := hrel
          have hbW := hbw.trans (hb2.mono hbw.size)
          have hbX2 := endB hb0 hbW
          have k2 := k1.below hb2 k1.lt
          clear c0 c1
          obtain ⟨c0, c1, _, _⟩ := k2.two
          have hdl := dyR_len G kind (a : Int) (s.take k)
          rw [List.length_take] at hdl
          by_cases hkl : k < s.length
          case pos =>
            have hstp : s.take (k + 1) = s.take k ++ [s[k]] := List.take_succ_eq_append_getElem hkl
            have hs1 := dyR_snoc G kind (a : Int) (s.take k) s[k]
            have hs2 := hosR_snoc G kind (a : Int) (s.take k) s[k]
            rw [← hstp] at hs1 hs2
            rw [Hq1.out] at hs2
            obtain ⟨b, o, rfl, d0⟩ := (hs.below hbX2).at_ hkl
            obtain ⟨x, hx⟩ : ∃ x, s[k] = x := ⟨_, rfl⟩
            obtain ⟨D, hD⟩ : ∃ D, dyR G kind (a : Int) (s.take k) = D := ⟨_, rfl⟩
            obtain ⟨h, hh⟩ : ∃ h, hosR G kind (a : Int) (s.take k) = h := ⟨_, rfl⟩
            rw [hx, hD] at hs1
            rw [hx, hh] at hs2
            rw [hx] at d0
            rw [hD] at hdo hdl
            rw [hh]
            obtain ⟨AD, cD, hvv⟩ := hdo.shape
            subst hvv
            have hfit := hdo.fit
            have hpu := rPut_any AD D cD (x, (a : Int)) wr (OwnP.rpr hdo) (by omega) hfit.1 hfit.2
            have hhas := fun W (hW : Below w.heap.size w W) => gnHas_any A (n : Int) G c (a : Int) x W (hr.below hW) hl
            obtain ⟨hs3, hhs3⟩ : ∃ hs3, hasB G (a : Int) x = hs3 := ⟨_, rfl⟩
            rw [hhs3] at hs1 hs2 hhas
            have Hs1 := Lib.hid hs1; have Hs2 := Lib.hid hs2; have Hpu := Lib.hid hpu; have Hhas := Lib.hid hhas
            have hsw : wo.heap.size ≤ wr.heap.size := hb2.size
            clear hs1 hs2 hpu hhas hstp hx hD hh hhs3 hfit hdo
            go_wp2_with fail
            refine Hpu.out.mono ?_
            rintro e w3 ⟨A3, c3, rfl, ho3, hb3⟩
            obtain ⟨D1, hD1⟩ : ∃ D1, putL D (x, (a : Int)) = D1 := ⟨_, rfl⟩
            have hD1l := putL_len D (x, (a : Int))
            have hs1 := Hs1.out
            rw [hD1] at ho3 hD1l hs1
            have Hs1 := Lib.hid hs1
            obtain ⟨n3, hn3⟩ : ∃ n3, (putL D (x, (a : Int))).length = n3 := ⟨_, rfl⟩
            have hn3' : n3 = D1.length := by rw [← hn3, hD1]
            rw [hn3]
            rw [← hn3'] at ho3
            have ho3 := OwnP.mono' ho3 hsw
            have Ho3 := Lib.hid ho3; have Hn3 := Lib.hid hn3'
            have hbW3 := endB hbX2 hb3
            have hb23 := hb2.trans (hb3.mono hsw)
            have k3 := k2.below hb3 k2.lt
            have d03 := (hb3.cell (lt_of_cell d0)).trans d0
            clear hs1 hD1 hn3 hn3' ho3 c0 c1 d0 hb3
            obtain ⟨c0, c1, _, _⟩ := k3.two
            go_upto_region 16 with fail
            go_cut [79] (fun v wx => v = .bool (q1 && hs3) ∧ Below w3.heap.size w3 wx)
            case first =>
              cases q1
              case false =>
                go_quiet (fail)
                go_wp2_with fail
                go_meet
                exact ⟨rfl, below_drewN (Below.refl _ _) nq⟩
              case true =>
                refine wp_region_textB [9] (fun w' => Below w3.heap.size w3 w') (fun _ => True) (by kernel_rfl) (by kernel_rfl) (by kernel_rfl) (Below.refl _ _).drew trivial ?_
                repeat (first
                  | (refine TxtBL.skip (by rfl) ?_; simp only [Act.put, List.setIfInBounds_toArray, List.set_cons_zero, List.set_cons_succ])
                  | (refine TxtBL.take (by rfl) (by rfl) ?_; apply Exists.intro; refine ⟨fun w1 hS1 => ?_, ?_⟩; (focus ((have g0 := (hS1.cell (lt_of_cell c0)).trans c0; have g1 := (hS1.cell (lt_of_cell c1)).trans c1; have g2 := (hS1.cell (lt_of_cell d03)).trans d03); go_simp; with_reducible rfl)); simp only [Act.put, List.setIfInBounds_toArray, List.set_cons_zero, List.set_cons_succ])
                  | (refine TxtBL.takeE (by rfl) (by rfl) ?_; apply Exists.intro; refine ⟨fun w1 hS1 => ?_, ?_⟩; (focus ((have g0 := (hS1.cell (lt_of_cell c0)).trans c0; have g1 := (hS1.cell (lt_of_cell c1)).trans c1; have g2 := (hS1.cell (lt_of_cell d03)).trans d03); go_simp; with_reducible rfl)); simp only [Act.put, List.setIfInBounds_toArray, List.set_cons_zero, List.set_cons_succ]))
                refine TxtBL.call (f := 40) (args := #[.agg #[.int .i64 (n : Int), .slice A G.length c], .int .i64 (a : Int), .int .i64 x]) (fun u => u = .bool hs3) (fun _ _ => True) (by rfl) (by rfl) ⟨_, rfl⟩ (fun w1 hS1 hJ1 => by go_simp) (fun w1 hS1 hJ1 => ?_) ?_
                · refine (Hhas.out w1 (endB hbW3 hS1)).mono ?_
                  rintro e w' ⟨rfl, hb⟩
                  exact ⟨_, rfl, hS1.trans (hb.mono hS1.size), rfl, trivial⟩
                rintro _ rfl
                simp only [Act.put, List.setIfInBounds_toArray, List.set_cons_zero, List.set_cons_succ]
                repeat (first
                  | (refine TxtBL.skip (by rfl) ?_; simp only [Act.put, List.setIfInBounds_toArray, List.set_cons_zero, List.set_cons_succ])
                  | (refine TxtBL.take (by rfl) (by rfl) ?_; apply Exists.intro; refine ⟨fun w1 hS1 => ?_, ?_⟩; (focus (skip; go_simp; with_reducible rfl)); simp only [Act.put, List.setIfInBounds_toArray, List.set_cons_zero, List.set_cons_succ])
                  | (refine TxtBL.takeE (by rfl) (by rfl) ?_; apply Exists.intro; refine ⟨fun w1 hS1 => ?_, ?_⟩; (focus (skip; go_simp; with_reducible rfl)); simp only [Act.put, List.setIfInBounds_toArray, List.set_cons_zero, List.set_cons_succ]))
                refine TxtBL.nil (fun W2 hS2 _ => ?_)
                go_wp2_with fail
                go_meet
                exact ⟨rfl, hS2⟩
            obtain ⟨rfl, hb4⟩ := hcut
            obtain ⟨w4, hw4⟩ : ∃ w4, w4 = wc := ⟨_, rfl⟩
            subst hw4
            have ho4 : OwnP w4 wo.heap.size (.slice A3 n3 c3) D1 := ownsRow_below Ho3.out hb4
            have Ho4 := Lib.hid ho4
            clear ho4
            have hb24 := hb23.trans (hb4.mono hb23.size)
            have d04 := (hb4.cell (lt_of_cell d03)).trans d03
            clear c0 c1 d03
            cases hq : (q1 && hs3)
            case false =>
              have hs1 := Hs1.out; have hs2 := Hs2.out
              have hcn : ¬ (kind = 1 ∧ hs3 = true) := fun e => by
                have h1 := Hq1.out
                rw [decide_eq_true e.1] at h1
                rw [← h1, e.2] at hq; cases hq
              rw [if_neg hcn] at hs1
              rw [hq, Bool.or_false] at hs2
              have Hs1 := Lib.hid hs1; have Hs2 := Lib.hid hs2
              clear hs1 hs2 hcn hq
              go_wp2_with fail
              go_roundw
              case rel => exact ⟨k + 1, hkl, by go_num, by rw [Hs2.out], by rw [Hs1.out]; exact Ho4.out, hb24⟩
              case measure => simp [intOf]; omega
            case true =>
              have hs1 := Hs1.out; have hs2 := Hs2.out
              have hqq : q1 = true ∧ hs3 = true := by rw [Bool.and_eq_true] at hq; exact hq
              have hcn : kind = 1 ∧ hs3 = true := ⟨of_decide_eq_true (Hq1.out.trans hqq.1), hqq.2⟩
              rw [if_pos hcn] at hs1
              rw [hq, Bool.or_true] at hs2
              have hfit := Ho4.out.fit
              have hpu := rPut_any A3 D1 c3 ((a : Int), x) w4 (OwnP.rpr Ho4.out) (by omega) hfit.1 hfit.2
              rw [← Hn3.out] at hpu
              have hsw4 : wo.heap.size ≤ w4.heap.size := hb24.size
              have Hs1 := Lib.hid hs1; have Hs2 := Lib.hid hs2; have Hpu := Lib.hid hpu
              clear hs1 hs2 hcn hq hqq hpu hfit
              go_wp2_with fail
              refine Hpu.out.mono ?_
              rintro e w5 ⟨A5, c5, rfl, ho5, hb5⟩
              obtain ⟨D2, hD2⟩ : ∃ D2, putL D1 ((a : Int), x) = D2 := ⟨_, rfl⟩
              have hs1 := Hs1.out
              rw [hD2] at ho5 hs1
              obtain ⟨n5, hn5⟩ : ∃ n5, (putL D1 ((a : Int), x)).length = n5 := ⟨_, rfl⟩
              have hn5' : n5 = D2.length := by rw [← hn5, hD2]
              rw [hn5]
              rw [← hn5'] at ho5
              have ho5 := OwnP.mono' ho5 hsw4
              have Ho5 := Lib.hid ho5; have Hs1 := Lib.hid hs1
              have hb25 := hb24.trans (hb5.mono hsw4)
              clear hs1 hD2 hn5 hn5' ho5 hb5
              go_wp2_with fail
              go_roundw
              case rel => exact ⟨k + 1, hkl, by go_num, by rw [Hs2.out], by rw [Hs1.out]; exact Ho5.out, hb25⟩
              case measure => simp [intOf]; omega
          case neg =>
            obtain rfl : k = s.length := by omega
            rw [List.take_length]
            rw [List.take_length] at hdo hdl
            obtain ⟨h, hh⟩ : ∃ h, hosR G kind (a : Int) s = h := ⟨_, rfl⟩
            obtain ⟨D, hD⟩ : ∃ D, dyR G kind (a : Int) s = D := ⟨_, rfl⟩
            have hst := Hst.out
            unfold oweR at hst
            rw [hD, hh] at hst
            rw [hD] at hdo hdl
            rw [hh]
            obtain ⟨AD, cD, hvv⟩ := hdo.shape
            subst hvv
            have h1 := nwIn_any Bs s cs (a : Int) wr (hs.below hbX2) (by omega)
            have h2 := nwAtk_any A (n : Int) G c Bs s cs (a : Int) wr (hr.below hbX2) hl (hs.below hbX2) (by omega)
            obtain ⟨b1, hb1⟩ : ∃ b1, inB s (a : Int) = b1 := ⟨_, rfl⟩
            obtain ⟨b2, hbb2⟩ : ∃ b2, atkB G s (a : Int) = b2 := ⟨_, rfl⟩
            rw [hb1, hbb2] at hst
            rw [hb1] at h1
            rw [hbb2] at h2
            have HownR := Lib.hid (ownsRow_below Hown.out hb2 : OwnTS wr W0.heap.size _ xs)
            have HtlR := Lib.hid (Htl.out.below hb2)
            have hso : W0.heap.size ≤ wo.heap.size := hbw.size
            have Hst := Lib.hid hst; have H1 := Lib.hid h1; have H2 := Lib.hid h2; have Hdo := Lib.hid hdo
            clear hst h1 h2 hb1 hbb2 hh hD hdo
            cases h
            case false =>
              have hst := Hst.out
              rw [Bool.false_and, if_neg (by decide)] at hst
              have Hst := Lib.hid hst
              clear hst
              go_wp2_with fail
              go_roundw
              case rel => exact ⟨a + 1, xs, hlt, by go_num, HownR.out, by rw [Hst.out]; exact HtlR.out, Hfx.out, hbW⟩
              case measure => simp [intOf]; omega
            go_wp2_with fail
            refine H1.out.mono ?_
            rintro e w3 ⟨rfl, hww⟩
            subst hww
            cases b1
            case true =>
              have hst := Hst.out
              rw [show (true && (!true && !b2)) = false by rfl, if_neg (by decide)] at hst
              have Hst := Lib.hid hst
              clear hst
              go_wp2_with fail
              go_roundw
              case rel => exact ⟨a + 1, xs, hlt, by go_num, HownR.out, by rw [Hst.out]; exact HtlR.out, Hfx.out, hbW⟩
              case measure => simp [intOf]; omega
            go_wp2_with fail
            refine H2.out.mono ?_
            rintro e w3 ⟨rfl, hb3⟩
            have hbW3 := hbW.trans (hb3.mono hbW.size)
            have HownR := Lib.hid (ownsRow_below HownR.out hb3 : OwnTS w3 W0.heap.size _ xs)
            have HtlR := Lib.hid (HtlR.out.below hb3)
            have hdo : OwnP w3 wo.heap.size (.slice AD D.length cD) D := ownsRow_below Hdo.out hb3
            have Hdo := Lib.hid hdo
            clear hdo
            cases b2
            case true =>
              have hst := Hst.out
              rw [show (true && (!false && !true)) = false by rfl, if_neg (by decide)] at hst
              have Hst := Lib.hid hst
              clear hst
              go_wp2_with fail
              go_roundw
              case rel => exact ⟨a + 1, xs, hlt, by go_num, HownR.out, by rw [Hst.out]; exact HtlR.out, Hfx.out, hbW3⟩
              case measure => simp [intOf]; omega
            have hst := Hst.out
            rw [show (true && (!false && !false)) = true by rfl, if_pos rfl] at hst
            have Hst := Lib.hid hst
            have Htl5 := Lib.hid (HtlR.out.snoc (c := cD) ((RPt.of_own Hdo.out).mono hso))
            have hD5 := hbW3.size
            obtain ⟨nD, hnD⟩ : ∃ nD, D.length = nD := ⟨_, rfl⟩
            have hfD := Hdo.out.fit
            rw [hnD] at hfD
            have HfD := Lib.hid (And.intro (fun e : AD = none => (show nD = 0 ∧ cD = 0 from ⟨by rw [← hnD, (hfD.1 e).1]; rfl, (hfD.1 e).2⟩)) hfD.2)
            clear hfD
            rw [hnD] at Htl5 ⊢
            clear hst hnD
            go_wp2_with (at_builtin; go_loud (refine wpList_appT (by rfl) _ _ (by rfl) w3 W0.heap.size _ xs AD nD cD HownR.out (by rfl) (by rfl) (by rfl) (by omega) hD5 ?_); intro v' w6 hown6 hb6 hg6; have Hown6 := Lib.hid hown6; clear hown6)
            go_roundw
            case rel => exact ⟨a + 1, _, hlt, by go_num, Hown6.out, by rw [Hst.out, ← List.append_assoc]; exact Htl5.out.append HownR.out hg6, Hfx.out.snoc HfD.out.1 HfD.out.2, hbW3.trans hb6⟩
            case measure => simp [intOf]; omega
      case neg =>
        obtain rfl : a = n := by omega
        obtain ⟨AF, cF, rfl, hrt, _⟩ := Hown.out.forms Htl.out
        go_wp2_with fail
        go_ret
        exact ⟨AF, cF, xs, rfl, ownsRow_mono Hown.out hb0.size, Htl.out.mono hb0.size, Hfx.out, hrt, hbX⟩
end Go.Proofs.YtncimnfhfomddaaDoor

/- ref21.Strict. Printed by gen_rst.py. -/
namespace Go.Proofs.YtncimnfhfomddaaDoor
open Go.ChangeShapes Go.WideShapes Go.ChangeAt Go.RowKit

/-- the test of ref21.Strict -/
def pkQ (s : List Int) (m : Nat) (q : Int × Int) : Bool := decide (1 < m) && (decide (q.1 = s.headD 0) && !inB s q.2)
def pkF (s : List Int) (m : Nat) (p : Int × Int) (d : List (Int × Int)) : Int × Int := d.foldl (fun p q => if pkQ s m q = true then q else p) p
theorem pkF_snoc (s : List Int) (m : Nat) (p : Int × Int) (d : List (Int × Int)) (q : Int × Int) : pkF s m p (d ++ [q]) = if pkQ s m q = true then q else pkF s m p d := by
  unfold pkF; rw [List.foldl_append]; rfl
theorem pkF_no {s : List Int} {m : Nat} {p : Int × Int} {d : List (Int × Int)} (h : ∀ q ∈ d, pkQ s m q = false) : pkF s m p d = p := by
  induction d generalizing p with
  | nil => rfl
  | cons q d ih =>
    show pkF s m (if pkQ s m q = true then q else p) d = p
    rw [h q (by simp), if_neg (by decide)]
    exact ih fun x hx => h x (List.mem_cons_of_mem _ hx)
theorem pkF_one {s : List Int} {m : Nat} {v : Int × Int} : ∀ {d : List (Int × Int)} {p : Int × Int}, (∀ q ∈ d, pkQ s m q = true → q = v) → (p = v ∨ (v ∈ d ∧ pkQ s m v = true)) → pkF s m p d = v := by
  intro d
  induction d with
  | nil => intro p _ h; rcases h with h | ⟨h, _⟩
           · exact h
           · cases h
  | cons q d ih =>
    intro p h1 h2
    show pkF s m (if pkQ s m q = true then q else p) d = v
    refine ih (fun x hx => h1 x (List.mem_cons_of_mem _ hx)) ?_
    by_cases hq : pkQ s m q = true
    · rw [if_pos hq]; exact .inl (h1 q (by simp) hq)
    · rw [if_neg hq]
      rcases h2 with h2 | ⟨h2, h3⟩
      · exact .inl h2
      · rcases List.mem_cons.1 h2 with rfl | h2
        · exact absurd h3 hq
        · exact .inr ⟨h2, h3⟩
/-- both take the same pair -/
theorem pk_eq {n : Nat} {G : List (Int × Int)} {s : List Int} {kind : Int} (hs : setB n s = true) (hh : hpB n s kind = false) (hk : kind = 1 ∨ kind = 2) {d : List (Int × Int)} (hd : d ∈ dutR n G s kind) : pkF s d.length (d.headD (0, 0)) d = chgP (maskN s) s d := by
  rcases mem_dutR.1 hd with ⟨p, _, h1, h2, rfl⟩ | ⟨a, ha, hns, hk2, hno, rfl⟩
  · rw [chg_one hs h1 h2]
    rfl
  · have hne := dut_ne hh hk ha hk2
    rw [chg_owe hs hns hne]
    have hin : (s.headD 0, (a : Int)) ∈ dyR G kind a s := (dyR_mem _).2 ⟨_, head_mem hne, .inl rfl⟩
    have hna : inB s (a : Int) = false := by rw [← Bool.not_eq_true, inB_iff]; exact hns
    refine pkF_one (fun q hq hp => ?_) ?_
    · unfold pkQ at hp
      simp only [Bool.and_eq_true, decide_eq_true_iff, Bool.not_eq_true'] at hp
      obtain ⟨x, hx, rfl | ⟨rfl, _⟩⟩ := (dyR_mem _).1 hq
      · exact Prod.ext hp.2.1 rfl
      · have := hp.2.2
        rw [(inB_iff _ _).2 hx] at this; cases this
    · by_cases hl : 1 < (dyR G kind a s).length
      · refine .inr ⟨hin, ?_⟩
        unfold pkQ
        rw [decide_eq_true hl, hna]
        simp
      · refine .inl ?_
        cases hdd : dyR G kind a s with
        | nil => rw [hdd] at hin; cases hin
        | cons p r =>
          rw [hdd] at hl hin
          have : r = [] := List.eq_nil_of_length_eq_zero (by simp at hl; exact List.length_eq_zero_iff.2 hl)
          subst this
          rw [List.mem_singleton] at hin
          exact hin.symm
/-- the duties that may have been made, with what fits -/
def DuF (B : Nat) (L : List (List (Int × Int))) (o : Option (Option Addr × Nat)) (w : World) : Prop := ∀ A c, o = some (A, c) → ∃ xs, OwnTS w B (.slice A L.length c) xs ∧ OwnTL w B xs L ∧ FitX xs
theorem DuF.no {B : Nat} {L : List (List (Int × Int))} {w : World} : DuF B L none w := fun _ _ e => by cases e
theorem DuF.below {B : Nat} {L : List (List (Int × Int))} {o : Option (Option Addr × Nat)} {w w' : World} (h : DuF B L o w) (hb : Below w.heap.size w w') : DuF B L o w' := fun A c e => by
  obtain ⟨xs, h1, h2, h3⟩ := h A c e
  exact ⟨xs, ownsRow_below h1 hb, h2.below hb, h3⟩
/-- the enforcement's box, with the clone and the duties -/
structure StF (B : Nat) (s : List Int) (L : List (List (Int × Int))) (AC : Option Addr) (cC : Nat) (AD : Option Addr) (cD q : Nat) (w : World) : Prop where
  hq : B ≤ q
  box : Blk w q 28 #[.slice AC s.length cC, .slice none 0 0, .slice AD L.length cD]
  cl : OwnI w B (.slice AC s.length cC) s
  du : ∃ xs, OwnTS w B (.slice AD L.length cD) xs ∧ OwnTL w B xs L ∧ FitX xs
theorem stf_made {B : Nat} {s : List Int} {L : List (List (Int × Int))} {AC : Option Addr} {cC : Nat} {AD : Option Addr} {cD q : Nat} {w : World} {xs : List Value} (hq : B ≤ q) (hk : Blk w q 28 #[.slice none 0 0, .slice none 0 0, .slice none 0 0])
    (hc : OwnI w B (.slice AC s.length cC) s) (ho : OwnTS w B (.slice AD L.length cD) xs) (hl : OwnTL w B xs L) (hx : FitX xs) :
    StF B s L AC cC AD cD q (((w.setCell ⟨q, 0, none⟩ (.slice AC s.length cC)).setCell ⟨q, 1, none⟩ (.slice none 0 0)).setCell ⟨q, 2, none⟩ (.slice AD L.length cD)) := by
  have hg : w.grownBy (((w.setCell ⟨q, 0, none⟩ (.slice AC s.length cC)).setCell ⟨q, 1, none⟩ (.slice none 0 0)).setCell ⟨q, 2, none⟩ (.slice AD L.length cD)) (some q) := grownBy_trans (grownBy_trans (grownBy_setCell w q 0 _) (grownBy_setCell _ q 1 _)) (grownBy_setCell _ q 2 _)
  exact ⟨hq, ((hk.set_ 0 _).set_ 1 _).set_ 2 _, World.ownsRow.kept hc hg (.inr (own_apart hc hk (by decide))), xs, World.ownsRow.kept ho hg (.inr (own_apart ho hk (by decide))), hl.apartB hk (by decide) hg, hx⟩
/-- ref21.Strict's answer -/
def RetEr (N : Int) (G : List (Int × Int)) (s : List Int) (kind : Int) (w : World) : Ending → World → Prop := fun e w' => Below w.heap.size w w' ∧
  ((stErr N G s kind ≠ 0 ∧ e = .returned (.tuple #[.agg #[.slice none 0 0, .slice none 0 0, .slice none 0 0], .int .i64 (stErr N G s kind)])) ∨
   (stErr N G s kind = 0 ∧ ∃ AC cC AH cH AD cD xs, e = .returned (.tuple #[.agg #[.slice AC s.length cC, .slice AH (strC N.toNat G s kind).length cH, .slice AD (dutL N.toNat G s kind).length cD], .int .i64 0]) ∧
     OwnI w' w.heap.size (.slice AC s.length cC) s ∧ OwnP w' w.heap.size (.slice AH (strC N.toNat G s kind).length cH) (strC N.toNat G s kind) ∧ OwnTS w' w.heap.size (.slice AD (dutL N.toNat G s kind).length cD) xs ∧ OwnTL w' w.heap.size xs (dutL N.toNat G s kind) ∧ FitX xs))
set_option maxRecDepth 100000 in
set_option maxHeartbeats 8000000 in
theorem rStrict_any (A : Option Addr) (N : Int) (G : List (Int × Int)) (c : Nat) (Bs : Option Addr) (s : List Int) (cs : Nat) (kind : Int) (w : World) (hr : RP w A G) (hl : G.length ≤ 100000) (hs : RI w Bs s) (hsn : Bs = none → s = [] ∧ cs = 0) (hls : s.length ≤ 100000) :
    Calls Tryd.prog 17 #[.agg #[.int .i64 N, .slice A G.length c], .slice Bs s.length cs, .int .i64 kind] w (RetEr N G s kind w) := by
  have Hsn := Lib.hid hsn
  clear hsn
  go_enter Tryd.func17, Tryd.ntmps17
  go_upto_region 1 with fail
  obtain ⟨W0, hW, k0, hb0, hs0⟩ := boxG w N A G.length c
  rw [hW]
  obtain ⟨W1, hW1, k1, hb1, hs1'⟩ := boxE W0
  rw [hW1]
  have hb01 := endB hb0 hb1
  have k01 := k0.below hb1 k0.lt
  rw [hs0] at k1
  clear hW hW1 k0 hb0 hb1 hs0 hs1'
  obtain ⟨d0, d1, _, _⟩ := k01.two
  go_wp2_with fail
  refine (rPos_any A N G c Bs s cs kind W1 (hr.below hb01) hl (hs.below hb01) hls).mono ?_
  rintro e w2 ⟨rfl, hb2⟩
  have hbb2 := endB hb01 hb2
  have k12 := k1.below hb2 k1.lt
  have k02 := k01.below hb2 k01.lt
  clear d0 d1 k01 k1 hb01 hb2
  obtain ⟨d0, d1, _, _⟩ := k02.two
  by_cases ha : arE N G s kind = 0
  case neg =>
    have he : stErr N G s kind = arE N G s kind := by unfold stErr; rw [if_neg ha]
    have hd : (arE N G s kind != 0) = true := by simp [ha]
    obtain ⟨Y, hY, hbY, e0, e1, e2⟩ := en_put (.slice none 0 0) (.slice none 0 0) (.slice none 0 0) k12 hbb2
    rw [← hY] at e0 e1 e2
    have HbY := Lib.hid hbY
    rw [← hY] at HbY
    clear hY hbY
    obtain ⟨y0, y1, y2, _, _⟩ := k12.threeE
    have z0 := k12.frozen 0
    go_wp2_with fail
    refine bodyPost_ret (v := .tuple #[.agg #[.slice none 0 0, .slice none 0 0, .slice none 0 0], .int .i64 (arE N G s kind)]) (by simp only [results, Tryd.results17]; simp [go_sem, e0, e1, e2]) rfl ?_
    exact ⟨HbY.out, .inl ⟨by rw [he]; exact ha, by rw [he]⟩⟩
  have hd : (arE N G s kind != 0) = false := by simp [ha]
  have hha : ∀ b, hpB N s kind = b → (b = true → stErr N G s kind = 9) ∧ (b = false → stErr N G s kind = 0) := fun b hb => by
    unfold stErr
    rw [if_pos ha, hb]
    exact ⟨fun e => by rw [e]; rfl, fun e => by rw [e]; rfl⟩
  obtain ⟨hv0, hk, hsb⟩ := arE_ok ha
  obtain ⟨n, rfl, hv⟩ := vld_of_valE hv0 hl
  obtain ⟨hb, hhb⟩ : ∃ hb, hpB (n : Int) s kind = hb := ⟨_, rfl⟩
  obtain ⟨hx9, hx0⟩ := hha hb hhb
  have e0 : (((s.length : Nat) : Int) == 0) = decide (s = []) := by
    cases s with
    | nil => rfl
    | cons x r => simp; omega
  have e1 : (kind == 2) = decide (kind = 2) := by
    by_cases h : kind = 2
    · subst h; rfl
    · simp [h]
  have Hx9 := Lib.hid hx9; have Hx0 := Lib.hid hx0; have Hv := Lib.hid hv; have Hk := Lib.hid hk; have Hsb := Lib.hid hsb; have Hhb := Lib.hid hhb
  unfold hpB at hhb
  have hhb' := hhb
  clear hha hx9 hx0 hv0 hv hk hsb ha hhb
  obtain ⟨W3, hW3⟩ : ∃ W3, W3 = w2 := ⟨_, rfl⟩
  subst hW3
  go_upto_region 4 with fail
  go_cut [33] (fun v wx => v = .bool hb ∧ wx = W3)
  case first =>
    obtain ⟨b0, hb0⟩ : ∃ b, decide (s = []) = b := ⟨_, rfl⟩
    obtain ⟨b1, hb1⟩ : ∃ b, decide (kind = 2) = b := ⟨_, rfl⟩
    rw [hb0] at e0 hhb'
    rw [hb1] at e1 hhb'
    have Hhb2 := Lib.hid hhb'
    clear hhb' hb0 hb1
    cases b0
    · go_wp2_with fail
      go_meet
      exact ⟨by rw [← Hhb2.out]; rfl, rfl⟩
    cases b1
    · go_wp2_with fail
      go_meet
      exact ⟨by rw [← Hhb2.out]; rfl, rfl⟩
    go_wp2_with fail
    go_meet
    exact ⟨by rw [← Hhb2.out]; simp, rfl⟩
  obtain ⟨rfl, rfl⟩ := hcut
  clear hhb' e0 e1
  cases hb
  case true =>
    have he := Hx9.out rfl
    have He := Lib.hid he
    clear he
    obtain ⟨Y, hY, hbY, e0, e1, e2⟩ := en_put (.slice none 0 0) (.slice none 0 0) (.slice none 0 0) k12 hbb2
    rw [← hY] at e0 e1 e2
    have HbY := Lib.hid hbY
    rw [← hY] at HbY
    clear hY hbY
    obtain ⟨y0, y1, y2, _, _⟩ := k12.threeE
    have z0 := k12.frozen 0
    go_wp2_with fail
    refine bodyPost_ret (v := .tuple #[.agg #[.slice none 0 0, .slice none 0 0, .slice none 0 0], .int .i64 9]) (by simp only [results, Tryd.results17]; simp [go_sem, e0, e1, e2]) rfl ?_
    exact ⟨HbY.out, .inl ⟨by rw [He.out]; decide, by rw [He.out]⟩⟩
  have He := Lib.hid (Hx0.out rfl)
  have hr1 := hr.below hbb2
  have hs1 := hs.below hbb2
  have hls2 := setB_len Hsb.out
  have hn40 := Hv.out.1.1
  have hdu := fun w hr hs => rDuties_any A n G c Bs s cs kind w hr hl hs (by omega) (by omega)
  have hdq := dutR_eq Hv.out.1 Hsb.out Hk.out
  have hok := dut_ok Hv.out Hsb.out Hhb.out Hk.out
  have hpk := fun d hd => pk_eq (d := d) Hsb.out Hhb.out Hk.out (by rw [hdq]; exact hd)
  have hLl : (dutL n G s kind).length ≤ 200000 := by
    unfold dutL
    have h1 := dutA_len (maskN s) G
    have h3 := dutB_len n G s kind n
    unfold dutB at h3
    rw [List.length_append]
    omega
  have hdl : ∀ d ∈ dutL n G s kind, d.length ≤ 100000 := fun d hd => by
    rw [← hdq] at hd
    rcases mem_dutR.1 hd with ⟨p, _, _, _, rfl⟩ | ⟨a, _, _, _, _, rfl⟩
    · simp
    · have := dyR_len G kind a s; omega
  rw [hdq] at hdu
  obtain ⟨L, hL⟩ : ∃ L, dutL n G s kind = L := ⟨_, rfl⟩
  rw [hL] at hok hdu hLl hpk hdl
  have Hdu := Lib.hid hdu; have Hok := Lib.hid hok; have HL := Lib.hid hL; have Hpk := Lib.hid hpk; have Hdl := Lib.hid hdl
  clear hdu hok hL hdq hpk hdl
  obtain ⟨W1, hW1⟩ : ∃ W1, W1 = wc := ⟨_, rfl⟩
  subst hW1
  go_upto_region 6 with fail
  go_cut [9] (fun b wx => ∃ q AC cC AD cD, b = Value.pointer (some ⟨q, 0, none⟩) ∧ StF W1.heap.size s L AC cC AD cD q wx ∧ Below W1.heap.size W1 wx)
  case first =>
    refine wp_region_tree [1, 5, 7, 8] (fun w' => Below W1.heap.size W1 w') (fun w' => ClC W1.heap.size s none w' ∧ DuF W1.heap.size L none w' ∧ BxC 28 #[.slice none 0 0, .slice none 0 0, .slice none 0 0] none W1.heap.size w') 9 [0, 1, 2, 3, 4, 5, 6, 7, 8] (by rfl) (by decide) (by kernel_rfl) (by kernel_rfl) (Below.refl _ _).drew ⟨ClC.no, DuF.no, BxC.no⟩ ?_
    refine TxtT.pure 0 (by rfl) (by rw [List.getElem?_toArray]; rfl) (by rfl) (by as_aux_lemma => kernel_rfl) (by rfl) ?_; apply Exists.intro; refine ⟨fun w1 hS1 => ?_, ?_⟩; (focus (skip; go_simp; with_reducible rfl))
    rw [show List.erase [0, 1, 2, 3, 4, 5, 6, 7, 8] 0 = [1, 2, 3, 4, 5, 6, 7, 8] from rfl]; simp only [Act.put, List.setIfInBounds_toArray, List.set_cons_zero, List.set_cons_succ]
    refine TxtT.pure 2 (by rfl) (by rw [List.getElem?_toArray]; rfl) (by rfl) (by as_aux_lemma => kernel_rfl) (by rfl) ?_; apply Exists.intro; refine ⟨fun w1 hS1 => ?_, ?_⟩; (focus ((have g0 := (hS1.cell (lt_of_cell d0)).trans d0; have g1 := (hS1.cell (lt_of_cell d1)).trans d1); go_simp; with_reducible rfl))
    rw [show List.erase [1, 2, 3, 4, 5, 6, 7, 8] 2 = [1, 3, 4, 5, 6, 7, 8] from rfl]; simp only [Act.put, List.setIfInBounds_toArray, List.set_cons_zero, List.set_cons_succ]
    refine TxtT.pure 3 (by rfl) (by rw [List.getElem?_toArray]; rfl) (by rfl) (by as_aux_lemma => kernel_rfl) (by rfl) ?_; apply Exists.intro; refine ⟨fun w1 hS1 => ?_, ?_⟩; (focus (skip; go_simp; with_reducible rfl))
    rw [show List.erase [1, 3, 4, 5, 6, 7, 8] 3 = [1, 4, 5, 6, 7, 8] from rfl]; simp only [Act.put, List.setIfInBounds_toArray, List.set_cons_zero, List.set_cons_succ]
    refine TxtT.pure 4 (by rfl) (by rw [List.getElem?_toArray]; rfl) (by rfl) (by as_aux_lemma => kernel_rfl) (by rfl) ?_; apply Exists.intro; refine ⟨fun w1 hS1 => ?_, ?_⟩; (focus (skip; go_simp; with_reducible rfl))
    rw [show List.erase [1, 4, 5, 6, 7, 8] 4 = [1, 5, 6, 7, 8] from rfl]; simp only [Act.put, List.setIfInBounds_toArray, List.set_cons_zero, List.set_cons_succ]
    refine TxtT.two 1 7 (by as_aux_lemma => kernel_rfl) (by rw [List.getElem?_toArray]; rfl) (by rw [List.getElem?_toArray]; rfl) (by rfl) (by rfl) (by rfl) (by rfl) (fun v => ∃ A c, v = Value.slice A s.length c) (fun v w' => ∃ AC cC, v = Value.slice AC s.length cC ∧ ClC W1.heap.size s (some (AC, cC)) w' ∧ DuF W1.heap.size L none w' ∧ BxC 28 #[.slice none 0 0, .slice none 0 0, .slice none 0 0] none W1.heap.size w') (fun v => ∃ q, v = Value.pointer (some ⟨q, 0, none⟩)) (fun v w' => ∃ q, v = Value.pointer (some ⟨q, 0, none⟩) ∧ ClC W1.heap.size s none w' ∧ DuF W1.heap.size L none w' ∧ BxC 28 #[.slice none 0 0, .slice none 0 0, .slice none 0 0] (some q) W1.heap.size w') (fun w1 hS1 hJ1 => ?_) (fun w1 hS1 hJ1 => ?_) ?_ ?_
    · refine eff_appIs (.const (.slice none 0 0)) (.tmp 35) (by rfl) w1 W1.heap.size (.slice none 0 0) [] Bs s cs (OwnI.nil _ _) (hs1.below hS1) Hsn.out (by rfl) (by rfl) (by simp; omega) hS1.size fun v' w' hown' hb hg => ?_
      rw [List.nil_append] at hown'
      obtain ⟨A1, c1, rfl⟩ := shapeI hown'
      have hb' : Below w1.heap.size w1 w' := ⟨hg.os, hg.tape, hg.output, hg.size, fun k hk => hg.block k hk (by simp [Value.ownBlock])⟩
      exact ⟨hS1.trans hb, ⟨A1, c1, rfl⟩, A1, c1, rfl, (fun A c e => by injection e with e; injection e with e1 e2; subst e1 e2; exact hown'), hJ1.2.1.below hb', hJ1.2.2.below hb'⟩
    · exact Eff.value (w' := w1.alloc (.cells #[.slice none 0 0, .slice none 0 0, .slice none 0 0] 28)) (v := .pointer (some ⟨w1.heap.size, 0, none⟩)) (by go_simp) ⟨hS1.trans ((newB w1 _).mono hS1.size), ⟨_, rfl⟩, _, rfl, hJ1.1.below (newB w1 _), hJ1.2.1.below (newB w1 _), BxC.new hS1.size⟩
    ·
      rintro _ ⟨AC, cC, rfl⟩
      rw [show List.erase [1, 5, 6, 7, 8] 1 = [5, 6, 7, 8] from rfl]; simp only [Act.put, List.setIfInBounds_toArray, List.set_cons_zero, List.set_cons_succ]
      refine TxtT.weakJ (J2 := fun w' => ClC W1.heap.size s (some (AC, cC)) w' ∧ DuF W1.heap.size L none w' ∧ BxC 28 #[.slice none 0 0, .slice none 0 0, .slice none 0 0] none W1.heap.size w') (fun w1 h => by obtain ⟨x, y, hq, h⟩ := h; simp only [Value.slice.injEq, true_and] at hq; obtain ⟨hq1, hq2⟩ := hq; subst hq1; subst hq2; exact h) ?_
      refine TxtT.two 5 7 (by as_aux_lemma => kernel_rfl) (by rw [List.getElem?_toArray]; rfl) (by rw [List.getElem?_toArray]; rfl) (by rfl) (by rfl) (by rfl) (by rfl) (fun v => ∃ A c, v = Value.slice A L.length c) (fun v w' => ∃ AD cD, v = Value.slice AD L.length cD ∧ ClC W1.heap.size s (some (AC, cC)) w' ∧ DuF W1.heap.size L (some (AD, cD)) w' ∧ BxC 28 #[.slice none 0 0, .slice none 0 0, .slice none 0 0] none W1.heap.size w') (fun v => ∃ q, v = Value.pointer (some ⟨q, 0, none⟩)) (fun v w' => ∃ q, v = Value.pointer (some ⟨q, 0, none⟩) ∧ ClC W1.heap.size s (some (AC, cC)) w' ∧ DuF W1.heap.size L none w' ∧ BxC 28 #[.slice none 0 0, .slice none 0 0, .slice none 0 0] (some q) W1.heap.size w') (fun w1 hS1 hJ1 => ?_) (fun w1 hS1 hJ1 => ?_) ?_ ?_
      · refine Eff.call (f := 47) (args := #[.agg #[.int .i64 (n : Int), .slice A G.length c], .slice Bs s.length cs, .int .i64 kind]) (by go_simp) ((Hdu.out w1 (hr1.below hS1) (hs1.below hS1)).mono ?_)
        rintro e w' ⟨A1, c1, xs, rfl, ho, hl, hfx, _, hb⟩
        exact ⟨_, rfl, hS1.trans (hb.mono hS1.size), ⟨A1, c1, rfl⟩, A1, c1, rfl, hJ1.1.below hb, (fun A c e => by injection e with e; injection e with e1 e2; subst e1 e2; exact ⟨xs, ownsRow_mono ho hS1.size, hl.mono hS1.size, hfx⟩), hJ1.2.2.below hb⟩
      · exact Eff.value (w' := w1.alloc (.cells #[.slice none 0 0, .slice none 0 0, .slice none 0 0] 28)) (v := .pointer (some ⟨w1.heap.size, 0, none⟩)) (by go_simp) ⟨hS1.trans ((newB w1 _).mono hS1.size), ⟨_, rfl⟩, _, rfl, hJ1.1.below (newB w1 _), hJ1.2.1.below (newB w1 _), BxC.new hS1.size⟩
      ·
        rintro _ ⟨AD, cD, rfl⟩
        rw [show List.erase [5, 6, 7, 8] 5 = [6, 7, 8] from rfl]; simp only [Act.put, List.setIfInBounds_toArray, List.set_cons_zero, List.set_cons_succ]
        refine TxtT.weakJ (J2 := fun w' => ClC W1.heap.size s (some (AC, cC)) w' ∧ DuF W1.heap.size L (some (AD, cD)) w' ∧ BxC 28 #[.slice none 0 0, .slice none 0 0, .slice none 0 0] none W1.heap.size w') (fun w1 h => by obtain ⟨x, y, hq, h⟩ := h; simp only [Value.slice.injEq, true_and] at hq; obtain ⟨hq1, hq2⟩ := hq; subst hq1; subst hq2; exact h) ?_
        refine TxtT.pure 6 (by rfl) (by rw [List.getElem?_toArray]; rfl) (by rfl) (by as_aux_lemma => kernel_rfl) (by rfl) ?_; apply Exists.intro; refine ⟨fun w1 hS1 => ?_, ?_⟩; (focus (skip; go_simp; with_reducible rfl))
        rw [show List.erase [6, 7, 8] 6 = [7, 8] from rfl]; simp only [Act.put, List.setIfInBounds_toArray, List.set_cons_zero, List.set_cons_succ]
        refine TxtT.one 7 (by as_aux_lemma => kernel_rfl) (by rw [List.getElem?_toArray]; rfl) (by rfl) (by rfl) (fun v => ∃ q, v = Value.pointer (some ⟨q, 0, none⟩)) (fun v w' => ∃ q, v = Value.pointer (some ⟨q, 0, none⟩) ∧ ClC W1.heap.size s (some (AC, cC)) w' ∧ DuF W1.heap.size L (some (AD, cD)) w' ∧ BxC 28 #[.slice none 0 0, .slice none 0 0, .slice none 0 0] (some q) W1.heap.size w') (fun w1 hS1 hJ1 => ?_) ?_
        · exact Eff.value (w' := w1.alloc (.cells #[.slice none 0 0, .slice none 0 0, .slice none 0 0] 28)) (v := .pointer (some ⟨w1.heap.size, 0, none⟩)) (by go_simp) ⟨hS1.trans ((newB w1 _).mono hS1.size), ⟨_, rfl⟩, _, rfl, hJ1.1.below (newB w1 _), hJ1.2.1.below (newB w1 _), BxC.new hS1.size⟩
        rintro _ ⟨q, rfl⟩
        rw [show List.erase [7, 8] 7 = [8] from rfl]; simp only [Act.put, List.setIfInBounds_toArray, List.set_cons_zero, List.set_cons_succ]
        refine TxtT.weakJ (J2 := fun w' => ClC W1.heap.size s (some (AC, cC)) w' ∧ DuF W1.heap.size L (some (AD, cD)) w' ∧ BxC 28 #[.slice none 0 0, .slice none 0 0, .slice none 0 0] (some q) W1.heap.size w') (fun w1 h => by obtain ⟨q', hq, h⟩ := h; injection hq with hq; injection hq with hq; injection hq with hq _ _; subst hq; exact h) ?_
        refine TxtT.one 8 (by as_aux_lemma => kernel_rfl) (by rw [List.getElem?_toArray]; rfl) (by rfl) (by rfl) (fun v => v = undef) (fun _ w' => StF W1.heap.size s L AC cC AD cD q w') (fun w1 hS1 hJ1 => ?_) ?_
        · obtain ⟨hq, hk4⟩ := hJ1.2.2 q rfl
          obtain ⟨xs, ho, hl, hfx⟩ := hJ1.2.1 AD cD rfl
          have hc := hJ1.1 AC cC rfl
          have z0 := hk4.frozen 0; have z1 := hk4.frozen 1; have z2 := hk4.frozen 2
          have y0 : w1.cell? ⟨q, 0, none⟩ = some (.slice none 0 0) := hk4.cell 0; have y1 : w1.cell? ⟨q, 1, none⟩ = some (.slice none 0 0) := hk4.cell 1; have y2 : w1.cell? ⟨q, 2, none⟩ = some (.slice none 0 0) := hk4.cell 2
          exact Eff.skip (w' := ((w1.setCell ⟨q, 0, none⟩ (.slice AC s.length cC)).setCell ⟨q, 1, none⟩ (.slice none 0 0)).setCell ⟨q, 2, none⟩ (.slice AD L.length cD)) (by go_simp) ⟨((hS1.setCell (p := ⟨q, 0, none⟩) hq _).setCell (p := ⟨q, 1, none⟩) hq _).setCell (p := ⟨q, 2, none⟩) hq _, rfl, stf_made hq hk4 hc ho hl hfx⟩
        rintro _ rfl
        rw [show List.erase [8] 8 = [] from rfl]; simp only [Act.put]
        refine ⟨rfl, fun w1 hS1 hJ1 => ?_⟩
        go_wp2_with fail
        go_meet
        exact ⟨q, AC, cC, AD, cD, rfl, hJ1, hS1⟩
      ·
        rintro _ ⟨q, rfl⟩
        rw [show List.erase [5, 6, 7, 8] 7 = [5, 6, 8] from rfl]; simp only [Act.put, List.setIfInBounds_toArray, List.set_cons_zero, List.set_cons_succ]
        refine TxtT.weakJ (J2 := fun w' => ClC W1.heap.size s (some (AC, cC)) w' ∧ DuF W1.heap.size L none w' ∧ BxC 28 #[.slice none 0 0, .slice none 0 0, .slice none 0 0] (some q) W1.heap.size w') (fun w1 h => by obtain ⟨q', hq, h⟩ := h; injection hq with hq; injection hq with hq; injection hq with hq _ _; subst hq; exact h) ?_
        refine TxtT.one 5 (by as_aux_lemma => kernel_rfl) (by rw [List.getElem?_toArray]; rfl) (by rfl) (by rfl) (fun v => ∃ A c, v = Value.slice A L.length c) (fun v w' => ∃ AD cD, v = Value.slice AD L.length cD ∧ ClC W1.heap.size s (some (AC, cC)) w' ∧ DuF W1.heap.size L (some (AD, cD)) w' ∧ BxC 28 #[.slice none 0 0, .slice none 0 0, .slice none 0 0] (some q) W1.heap.size w') (fun w1 hS1 hJ1 => ?_) ?_
        · refine Eff.call (f := 47) (args := #[.agg #[.int .i64 (n : Int), .slice A G.length c], .slice Bs s.length cs, .int .i64 kind]) (by go_simp) ((Hdu.out w1 (hr1.below hS1) (hs1.below hS1)).mono ?_)
          rintro e w' ⟨A1, c1, xs, rfl, ho, hl, hfx, _, hb⟩
          exact ⟨_, rfl, hS1.trans (hb.mono hS1.size), ⟨A1, c1, rfl⟩, A1, c1, rfl, hJ1.1.below hb, (fun A c e => by injection e with e; injection e with e1 e2; subst e1 e2; exact ⟨xs, ownsRow_mono ho hS1.size, hl.mono hS1.size, hfx⟩), hJ1.2.2.below hb⟩
        rintro _ ⟨AD, cD, rfl⟩
        rw [show List.erase [5, 6, 8] 5 = [6, 8] from rfl]; simp only [Act.put, List.setIfInBounds_toArray, List.set_cons_zero, List.set_cons_succ]
        refine TxtT.weakJ (J2 := fun w' => ClC W1.heap.size s (some (AC, cC)) w' ∧ DuF W1.heap.size L (some (AD, cD)) w' ∧ BxC 28 #[.slice none 0 0, .slice none 0 0, .slice none 0 0] (some q) W1.heap.size w') (fun w1 h => by obtain ⟨x, y, hq, h⟩ := h; simp only [Value.slice.injEq, true_and] at hq; obtain ⟨hq1, hq2⟩ := hq; subst hq1; subst hq2; exact h) ?_
        refine TxtT.pure 6 (by rfl) (by rw [List.getElem?_toArray]; rfl) (by rfl) (by as_aux_lemma => kernel_rfl) (by rfl) ?_; apply Exists.intro; refine ⟨fun w1 hS1 => ?_, ?_⟩; (focus (skip; go_simp; with_reducible rfl))
        rw [show List.erase [6, 8] 6 = [8] from rfl]; simp only [Act.put, List.setIfInBounds_toArray, List.set_cons_zero, List.set_cons_succ]
        refine TxtT.one 8 (by as_aux_lemma => kernel_rfl) (by rw [List.getElem?_toArray]; rfl) (by rfl) (by rfl) (fun v => v = undef) (fun _ w' => StF W1.heap.size s L AC cC AD cD q w') (fun w1 hS1 hJ1 => ?_) ?_
        · obtain ⟨hq, hk4⟩ := hJ1.2.2 q rfl
          obtain ⟨xs, ho, hl, hfx⟩ := hJ1.2.1 AD cD rfl
          have hc := hJ1.1 AC cC rfl
          have z0 := hk4.frozen 0; have z1 := hk4.frozen 1; have z2 := hk4.frozen 2
          have y0 : w1.cell? ⟨q, 0, none⟩ = some (.slice none 0 0) := hk4.cell 0; have y1 : w1.cell? ⟨q, 1, none⟩ = some (.slice none 0 0) := hk4.cell 1; have y2 : w1.cell? ⟨q, 2, none⟩ = some (.slice none 0 0) := hk4.cell 2
          exact Eff.skip (w' := ((w1.setCell ⟨q, 0, none⟩ (.slice AC s.length cC)).setCell ⟨q, 1, none⟩ (.slice none 0 0)).setCell ⟨q, 2, none⟩ (.slice AD L.length cD)) (by go_simp) ⟨((hS1.setCell (p := ⟨q, 0, none⟩) hq _).setCell (p := ⟨q, 1, none⟩) hq _).setCell (p := ⟨q, 2, none⟩) hq _, rfl, stf_made hq hk4 hc ho hl hfx⟩
        rintro _ rfl
        rw [show List.erase [8] 8 = [] from rfl]; simp only [Act.put]
        refine ⟨rfl, fun w1 hS1 hJ1 => ?_⟩
        go_wp2_with fail
        go_meet
        exact ⟨q, AC, cC, AD, cD, rfl, hJ1, hS1⟩
    ·
      rintro _ ⟨q, rfl⟩
      rw [show List.erase [1, 5, 6, 7, 8] 7 = [1, 5, 6, 8] from rfl]; simp only [Act.put, List.setIfInBounds_toArray, List.set_cons_zero, List.set_cons_succ]
      refine TxtT.weakJ (J2 := fun w' => ClC W1.heap.size s none w' ∧ DuF W1.heap.size L none w' ∧ BxC 28 #[.slice none 0 0, .slice none 0 0, .slice none 0 0] (some q) W1.heap.size w') (fun w1 h => by obtain ⟨q', hq, h⟩ := h; injection hq with hq; injection hq with hq; injection hq with hq _ _; subst hq; exact h) ?_
      refine TxtT.one 1 (by as_aux_lemma => kernel_rfl) (by rw [List.getElem?_toArray]; rfl) (by rfl) (by rfl) (fun v => ∃ A c, v = Value.slice A s.length c) (fun v w' => ∃ AC cC, v = Value.slice AC s.length cC ∧ ClC W1.heap.size s (some (AC, cC)) w' ∧ DuF W1.heap.size L none w' ∧ BxC 28 #[.slice none 0 0, .slice none 0 0, .slice none 0 0] (some q) W1.heap.size w') (fun w1 hS1 hJ1 => ?_) ?_
      · refine eff_appIs (.const (.slice none 0 0)) (.tmp 35) (by rfl) w1 W1.heap.size (.slice none 0 0) [] Bs s cs (OwnI.nil _ _) (hs1.below hS1) Hsn.out (by rfl) (by rfl) (by simp; omega) hS1.size fun v' w' hown' hb hg => ?_
        rw [List.nil_append] at hown'
        obtain ⟨A1, c1, rfl⟩ := shapeI hown'
        have hb' : Below w1.heap.size w1 w' := ⟨hg.os, hg.tape, hg.output, hg.size, fun k hk => hg.block k hk (by simp [Value.ownBlock])⟩
        exact ⟨hS1.trans hb, ⟨A1, c1, rfl⟩, A1, c1, rfl, (fun A c e => by injection e with e; injection e with e1 e2; subst e1 e2; exact hown'), hJ1.2.1.below hb', hJ1.2.2.below hb'⟩
      rintro _ ⟨AC, cC, rfl⟩
      rw [show List.erase [1, 5, 6, 8] 1 = [5, 6, 8] from rfl]; simp only [Act.put, List.setIfInBounds_toArray, List.set_cons_zero, List.set_cons_succ]
      refine TxtT.weakJ (J2 := fun w' => ClC W1.heap.size s (some (AC, cC)) w' ∧ DuF W1.heap.size L none w' ∧ BxC 28 #[.slice none 0 0, .slice none 0 0, .slice none 0 0] (some q) W1.heap.size w') (fun w1 h => by obtain ⟨x, y, hq, h⟩ := h; simp only [Value.slice.injEq, true_and] at hq; obtain ⟨hq1, hq2⟩ := hq; subst hq1; subst hq2; exact h) ?_
      refine TxtT.one 5 (by as_aux_lemma => kernel_rfl) (by rw [List.getElem?_toArray]; rfl) (by rfl) (by rfl) (fun v => ∃ A c, v = Value.slice A L.length c) (fun v w' => ∃ AD cD, v = Value.slice AD L.length cD ∧ ClC W1.heap.size s (some (AC, cC)) w' ∧ DuF W1.heap.size L (some (AD, cD)) w' ∧ BxC 28 #[.slice none 0 0, .slice none 0 0, .slice none 0 0] (some q) W1.heap.size w') (fun w1 hS1 hJ1 => ?_) ?_
      · refine Eff.call (f := 47) (args := #[.agg #[.int .i64 (n : Int), .slice A G.length c], .slice Bs s.length cs, .int .i64 kind]) (by go_simp) ((Hdu.out w1 (hr1.below hS1) (hs1.below hS1)).mono ?_)
        rintro e w' ⟨A1, c1, xs, rfl, ho, hl, hfx, _, hb⟩
        exact ⟨_, rfl, hS1.trans (hb.mono hS1.size), ⟨A1, c1, rfl⟩, A1, c1, rfl, hJ1.1.below hb, (fun A c e => by injection e with e; injection e with e1 e2; subst e1 e2; exact ⟨xs, ownsRow_mono ho hS1.size, hl.mono hS1.size, hfx⟩), hJ1.2.2.below hb⟩
      rintro _ ⟨AD, cD, rfl⟩
      rw [show List.erase [5, 6, 8] 5 = [6, 8] from rfl]; simp only [Act.put, List.setIfInBounds_toArray, List.set_cons_zero, List.set_cons_succ]
      refine TxtT.weakJ (J2 := fun w' => ClC W1.heap.size s (some (AC, cC)) w' ∧ DuF W1.heap.size L (some (AD, cD)) w' ∧ BxC 28 #[.slice none 0 0, .slice none 0 0, .slice none 0 0] (some q) W1.heap.size w') (fun w1 h => by obtain ⟨x, y, hq, h⟩ := h; simp only [Value.slice.injEq, true_and] at hq; obtain ⟨hq1, hq2⟩ := hq; subst hq1; subst hq2; exact h) ?_
      refine TxtT.pure 6 (by rfl) (by rw [List.getElem?_toArray]; rfl) (by rfl) (by as_aux_lemma => kernel_rfl) (by rfl) ?_; apply Exists.intro; refine ⟨fun w1 hS1 => ?_, ?_⟩; (focus (skip; go_simp; with_reducible rfl))
      rw [show List.erase [6, 8] 6 = [8] from rfl]; simp only [Act.put, List.setIfInBounds_toArray, List.set_cons_zero, List.set_cons_succ]
      refine TxtT.one 8 (by as_aux_lemma => kernel_rfl) (by rw [List.getElem?_toArray]; rfl) (by rfl) (by rfl) (fun v => v = undef) (fun _ w' => StF W1.heap.size s L AC cC AD cD q w') (fun w1 hS1 hJ1 => ?_) ?_
      · obtain ⟨hq, hk4⟩ := hJ1.2.2 q rfl
        obtain ⟨xs, ho, hl, hfx⟩ := hJ1.2.1 AD cD rfl
        have hc := hJ1.1 AC cC rfl
        have z0 := hk4.frozen 0; have z1 := hk4.frozen 1; have z2 := hk4.frozen 2
        have y0 : w1.cell? ⟨q, 0, none⟩ = some (.slice none 0 0) := hk4.cell 0; have y1 : w1.cell? ⟨q, 1, none⟩ = some (.slice none 0 0) := hk4.cell 1; have y2 : w1.cell? ⟨q, 2, none⟩ = some (.slice none 0 0) := hk4.cell 2
        exact Eff.skip (w' := ((w1.setCell ⟨q, 0, none⟩ (.slice AC s.length cC)).setCell ⟨q, 1, none⟩ (.slice none 0 0)).setCell ⟨q, 2, none⟩ (.slice AD L.length cD)) (by go_simp) ⟨((hS1.setCell (p := ⟨q, 0, none⟩) hq _).setCell (p := ⟨q, 1, none⟩) hq _).setCell (p := ⟨q, 2, none⟩) hq _, rfl, stf_made hq hk4 hc ho hl hfx⟩
      rintro _ rfl
      rw [show List.erase [8] 8 = [] from rfl]; simp only [Act.put]
      refine ⟨rfl, fun w1 hS1 hJ1 => ?_⟩
      go_wp2_with fail
      go_meet
      exact ⟨q, AC, cC, AD, cD, rfl, hJ1, hS1⟩
  case rest =>
  obtain ⟨q, AC, cC, AD, cD, rfl, hst, hbc⟩ := hcut
  obtain ⟨W2, hW2⟩ : ∃ W2, W2 = wc := ⟨_, rfl⟩
  subst hW2
  obtain ⟨xs, hos, hol, hfx⟩ := hst.du
  have kq := hst.box
  have hcl := hst.cl
  have hq1 := hst.hq
  have Hos := Lib.hid hos; have Hol := Lib.hid hol; have Hcl := Lib.hid hcl; have Hfx := Lib.hid hfx
  have hqlt := kq.lt
  have hbw := endB hbb2 hbc
  clear hos hol hcl d0 d1 hr1 hs1 hfx
  go_wp2_with fail
  go_loopw [10] (fun i wr => ∃ (k : Nat) (v : Value), k ≤ L.length ∧ i = .int .i64 (k : Int) ∧ Blk wr q 28 #[.slice AC s.length cC, v, .slice AD L.length cD] ∧ OwnP wr W2.heap.size v ((L.take k).map (chgP (maskN s) s)) ∧ W2.grownBy wr (some q)) (fun i _ => L.length - (intOf i).toNat)
  case atStart => exact ⟨0, _, Nat.zero_le _, rfl, kq, OwnP.nil _ _, grownBy_refl _ _⟩
  case round =>
    obtain ⟨k, v, hk, rfl, kb, hown, hg⟩ := hrel
    have Hown := Lib.hid hown
    clear hown
    obtain ⟨f0, f1, f2, _, _⟩ := kb.threeE
    by_cases hlt : k < L.length
    case pos =>
      have hosr := World.ownsRow.kept Hos.out hg (.inr (own_apart Hos.out kq (by decide)))
      have holr := Hol.out.apartB kq (by decide) hg
      obtain ⟨A9, c9, e9, hrt, _⟩ := OwnTS.forms hosr holr
      simp only [Value.slice.injEq, true_and] at e9
      obtain ⟨e9a, e9b⟩ := e9
      subst e9a
      subst e9b
      have hbr := hbw.trans (below_of_grownBy hg (Nat.le_trans hbb2.size hq1) hbw.size)
      obtain ⟨b, o, A', c', hA, hcell, hrp⟩ := hrt k hlt
      subst hA
      obtain ⟨hs0, hl0, _⟩ := Hok.out L[k] (List.getElem_mem hlt)
      have hpk := Hpk.out L[k] (List.getElem_mem hlt)
      have hdl := Hdl.out L[k] (List.getElem_mem hlt)
      have hstep : (L.take (k + 1)).map (chgP (maskN s) s) = (L.take k).map (chgP (maskN s) s) ++ [chgP (maskN s) s L[k]] := by rw [List.take_succ_eq_append_getElem hlt, List.map_append]; rfl
      obtain ⟨d, hdd⟩ : ∃ d, L[k] = d := ⟨_, rfl⟩
      rw [hdd] at hcell hrp hl0 hpk hdl hstep
      rw [← hpk] at hstep
      have Hstep := Lib.hid hstep
      clear hdd hosr holr hrt hstep hpk
      have hl1 : 0 < d.length := List.length_pos_iff.2 hl0
      obtain ⟨b2, o2, rfl, hc, hd⟩ := hrp.at_ hl1
      obtain ⟨p, hp⟩ : ∃ p, d.headD (0, 0) = p := ⟨_, rfl⟩
      have hp0 : d[0] = p := by
        cases d with
        | nil => cases hl1
        | cons p r => exact hp
      have hst := Hstep.out
      rw [hp] at hst
      rw [hp0] at hc hd
      have Hstep := Lib.hid hst
      simp only [Nat.zero_mul, Nat.add_zero] at hc hd
      obtain ⟨W4, hW4, kp, hb4, hs4⟩ : ∃ W4, wr.alloc (.cells #[.int .i64 p.1, .int .i64 p.2] 42) = W4 ∧ Blk W4 wr.heap.size 42 #[.int .i64 p.1, .int .i64 p.2] ∧ Below wr.heap.size wr W4 ∧ W4.heap.size = wr.heap.size + 1 := ⟨_, rfl, Blk.new _ _ _, newB _ _, by simp⟩
      have hs0l : 0 < s.length := List.length_pos_iff.2 hs0
      obtain ⟨b3, o3, hB, hcs⟩ := (hs.below hbr).at_ hs0l
      subst hB
      obtain ⟨z, hz⟩ : ∃ z, s[0] = z := ⟨_, rfl⟩
      rw [hz, Nat.add_zero] at hcs
      have hhz : s.headD 0 = z := by
        cases s with
        | nil => cases hs0l
        | cons a r => exact hz
      have Hz := Lib.hid hhz
      have hl6 : ((L.take k).map (chgP (maskN s) s)).length ≤ 1000000 := by rw [List.length_map, List.length_take]; omega
      clear hhz hz hs0 hst hp hp0 hl0
      go_wp2_with fail
      have kp0 : Blk W4 wr.heap.size 42 #[.int .i64 (pkF s d.length p (d.take 0)).1, .int .i64 (pkF s d.length p (d.take 0)).2] := kp
      obtain ⟨wo, hwo⟩ : ∃ wo, wo = wr := ⟨_, rfl⟩
      subst hwo
      go_loopw [13] (fun i wr => ∃ j : Nat, j ≤ d.length ∧ i = .int .i64 (j : Int) ∧ Blk wr wo.heap.size 42 #[.int .i64 (pkF s d.length p (d.take j)).1, .int .i64 (pkF s d.length p (d.take j)).2] ∧ Below wo.heap.size wo wr) (fun i _ => d.length - (intOf i).toNat)
      case atStart => exact ⟨0, Nat.zero_le _, rfl, kp0, hb4⟩
      case round =>
        clear kp kp0 hb4 hs4 hW4
        obtain ⟨j, hj, rfl, kp, hb5⟩ := hrel
        have hb5w := hbr.trans (hb5.mono hbr.size)
        by_cases hjl : j < d.length
        case pos =>
          obtain ⟨b4, o4, hA4, hx, hy⟩ := (hrp.below hb5).at_ hjl
          injection hA4 with hA4; injection hA4 with hA5 hA6
          subst hA5; subst hA6
          have hcs5 := (hb5.cell (lt_of_cell hcs)).trans hcs
          have hstp : pkF s d.length p (d.take (j + 1)) = if pkQ s d.length d[j] = true then d[j] else pkF s d.length p (d.take j) := by rw [List.take_succ_eq_append_getElem hjl, pkF_snoc]
          obtain ⟨x, hxx⟩ : ∃ x, d[j] = x := ⟨_, rfl⟩
          rw [hxx] at hx hy hstp
          obtain ⟨y, hyy⟩ : ∃ y, pkF s d.length p (d.take j) = y := ⟨_, rfl⟩
          rw [hyy] at kp hstp
          have hin := fun W (hW : Below wr.heap.size wr W) => nwIn_any (some ⟨b3, o3, none⟩) s cs x.2 W ((hs.below hb5w).below hW) (by omega)
          obtain ⟨r, hrr⟩ : ∃ r, pkQ s d.length x = r := ⟨_, rfl⟩
          rw [hrr] at hstp
          unfold pkQ at hrr
          rw [Hz.out] at hrr
          have Hstp := Lib.hid hstp; have Hrr := Lib.hid hrr; have Hin := Lib.hid hin
          have hl1d : (1 : Int) < (d.length : Int) ∨ ¬ (1 : Int) < (d.length : Int) := Classical.em _
          clear hstp hrr hin hxx hyy
          go_upto_region 15 with fail
          go_cut [86] (fun v wx => v = .bool r ∧ wr.heap.size = wx.heap.size ∧ Below wr.heap.size wr wx)
          case first =>
            have hrr := Hrr.out
            by_cases h1 : 1 < d.length
            · rw [decide_eq_true h1, Bool.true_and] at hrr
              have hd1 : decide ((1 : Int) < (d.length : Int)) = true := decide_eq_true (by omega)
              by_cases h2 : x.1 = z
              · rw [decide_eq_true h2, Bool.true_and] at hrr
                have hd2 : (x.1 == z) = true := by simp [h2]
                have Hrr := Lib.hid hrr
                clear hrr h1 h2 hl1d
                refine wp_region_textB [21] (fun w' => w'.heap.size = wr.heap.size ∧ Below wr.heap.size wr w') (fun _ => True) (by kernel_rfl) (by kernel_rfl) (by kernel_rfl) ⟨rfl, (Below.refl _ _).drew⟩ trivial ?_
                repeat (first
                  | (refine TxtBL.skip (by rfl) ?_; simp only [Act.put, List.setIfInBounds_toArray, List.set_cons_zero, List.set_cons_succ])
                  | (refine TxtBL.take (by rfl) (by rfl) ?_; apply Exists.intro; refine ⟨fun w1 hS1 => ?_, ?_⟩; (focus ((have g0 := (hS1.2.cell (lt_of_cell hx)).trans hx; have g1 := (hS1.2.cell (lt_of_cell hy)).trans hy; have g2 := (hS1.2.cell (lt_of_cell hcs5)).trans hcs5); go_simp; with_reducible rfl)); simp only [Act.put, List.setIfInBounds_toArray, List.set_cons_zero, List.set_cons_succ])
                  | (refine TxtBL.takeE (by rfl) (by rfl) ?_; apply Exists.intro; refine ⟨fun w1 hS1 => ?_, ?_⟩; (focus ((have g0 := (hS1.2.cell (lt_of_cell hx)).trans hx; have g1 := (hS1.2.cell (lt_of_cell hy)).trans hy; have g2 := (hS1.2.cell (lt_of_cell hcs5)).trans hcs5); go_simp; with_reducible rfl)); simp only [Act.put, List.setIfInBounds_toArray, List.set_cons_zero, List.set_cons_succ]))
                refine TxtBL.call (f := 48) (args := #[.slice (some ⟨b3, o3, none⟩) s.length cs, .int .i64 x.2]) (fun u => u = .bool (inB s x.2)) (fun _ _ => True) (by rfl) (by rfl) ⟨_, rfl⟩ (fun w1 hS1 hJ1 => by go_simp) (fun w1 hS1 hJ1 => ?_) ?_
                · refine (Hin.out w1 hS1.2).mono ?_
                  rintro e w' ⟨rfl, rfl⟩
                  exact ⟨_, rfl, hS1, rfl, trivial⟩
                rintro _ rfl
                simp only [Act.put, List.setIfInBounds_toArray, List.set_cons_zero, List.set_cons_succ]
                repeat (first
                  | (refine TxtBL.skip (by rfl) ?_; simp only [Act.put, List.setIfInBounds_toArray, List.set_cons_zero, List.set_cons_succ])
                  | (refine TxtBL.take (by rfl) (by rfl) ?_; apply Exists.intro; refine ⟨fun w1 hS1 => ?_, ?_⟩; (focus (skip; go_simp; with_reducible rfl)); simp only [Act.put, List.setIfInBounds_toArray, List.set_cons_zero, List.set_cons_succ])
                  | (refine TxtBL.takeE (by rfl) (by rfl) ?_; apply Exists.intro; refine ⟨fun w1 hS1 => ?_, ?_⟩; (focus (skip; go_simp; with_reducible rfl)); simp only [Act.put, List.setIfInBounds_toArray, List.set_cons_zero, List.set_cons_succ]))
                refine TxtBL.nil (fun W5 hS5 _ => ?_)
                go_wp2_with fail
                go_meet
                exact ⟨by rw [← Hrr.out], hS5.1.symm, hS5.2⟩
              · rw [decide_eq_false h2, Bool.false_and] at hrr
                have hd2 : (x.1 == z) = false := by simp [h2]
                have Hrr := Lib.hid hrr
                clear hrr h1 h2 hl1d
                go_quiet (fail)
                go_wp2_with fail
                go_meet
                exact ⟨by rw [← Hrr.out], rfl, below_drewN (Below.refl _ _) nq⟩
            · rw [decide_eq_false h1, Bool.false_and] at hrr
              have hd1 : decide ((1 : Int) < (d.length : Int)) = false := decide_eq_false (by omega)
              have Hrr := Lib.hid hrr
              clear hrr h1 hl1d
              go_quiet (fail)
              go_wp2_with fail
              go_meet
              exact ⟨by rw [← Hrr.out], rfl, below_drewN (Below.refl _ _) nq⟩
          obtain ⟨rfl, _, hb6⟩ := hcut
          obtain ⟨W6, hW6⟩ : ∃ W6, W6 = wc := ⟨_, rfl⟩
          subst hW6
          have kp6 := kp.below hb6 kp.lt
          have hb56 := hb5.trans (hb6.mono hb5.size)
          have hx6 := (hb6.cell (lt_of_cell hx)).trans hx
          have hy6 := (hb6.cell (lt_of_cell hy)).trans hy
          clear hx hy hcs5 hl1d Hrr Hin
          cases r
          case false =>
            have hst := Hstp.out
            rw [if_neg (by decide)] at hst
            have Hst := Lib.hid hst
            clear hst
            go_wp2_with fail
            go_roundw
            case rel => exact ⟨j + 1, hjl, by go_num, by rw [Hst.out]; exact kp6, hb56⟩
            case measure => simp [intOf]; omega
          case true =>
            have hst := Hstp.out
            rw [if_pos rfl] at hst
            have Hst := Lib.hid hst
            clear hst
            obtain ⟨p0, p1, p2, p3⟩ := kp6.two
            have kpS := (kp6.set_ 0 (.int .i64 x.1)).set_ 1 (.int .i64 x.2)
            have hbS := (hb56.setCell (p := ⟨wo.heap.size, 0, none⟩) (Nat.le_refl _) (.int .i64 x.1)).setCell (p := ⟨wo.heap.size, 1, none⟩) (Nat.le_refl _) (.int .i64 x.2)
            have HS := Lib.hid (And.intro kpS hbS)
            clear kpS hbS
            go_wp2_with fail
            go_roundw
            case rel => exact ⟨j + 1, hjl, by go_num, by rw [Hst.out]; exact HS.out.1, HS.out.2⟩
            case measure => simp [intOf]; omega
        case neg =>
          obtain rfl : j = d.length := by omega
          rw [List.take_length] at kp
          obtain ⟨y, hyy⟩ : ∃ y, pkF s d.length p d = y := ⟨_, rfl⟩
          rw [hyy] at kp
          have hst := Hstep.out
          rw [hyy] at hst
          have Hst := Lib.hid hst
          clear hst hyy Hstep
          obtain ⟨X, hX⟩ : ∃ X, X = wr := ⟨_, rfl⟩
          subst hX
          have HownX := Lib.hid (ownsRow_below Hown.out hb5 : OwnP X W2.heap.size _ _)
          have kbX := kb.below hb5 kb.lt
          obtain ⟨g0, g1, g2, _, _⟩ := kbX.threeE
          obtain ⟨p0, p1, _, _⟩ := kp.two
          have hgX := hg.andThen (grownBy_of_below hb5 none) (fun j e => by cases e)
          have hDX : W2.heap.size ≤ X.heap.size := hgX.size
          have hlocX : ∀ j, v.ownBlock = some j → W2.heap.size ≤ j := fun j hj => (World.ownsRow.lt HownX.out j hj).1
          have HlocX := Lib.hid hlocX
          clear hlocX f0 f1 f2 kb hc hd hcell hrp hb5 hb5w
          go_wp2_with (at_builtin; go_loud (refine wpList_appP2 (by rfl) _ _ (by rfl) X W2.heap.size _ _ y.1 y.2 HownX.out (by rfl) (by rfl) (by omega) hl6 hDX ?_); intro v' w5 hown5 hb5 hg5; (obtain ⟨A5, n5, c5, rfl⟩ : ∃ A n c, v' = Value.slice A n c := by (obtain ⟨A, c, h, _⟩ := hown5.form; exact ⟨A, _, c, h⟩)); have kb5 := kbX.append HownX.out hg5 hqlt; (obtain ⟨m0, m1, m2, _, _⟩ := kb5.threeE); have Hown5 := Lib.hid hown5; clear hown5)
          go_roundw
          case rel => exact ⟨k + 1, .slice A5 n5 c5, hlt, by go_num, kb5.set_ 1 (.slice A5 n5 c5), by rw [Hst.out]; exact ownsRow_setCell_below Hown5.out (a := ⟨q, 1, none⟩) hqlt _, grownBy_trans (hgX.andThen hg5 (fun j hj => .inl (HlocX.out j hj))) (grownBy_setCell w5 q 1 _)⟩
          case measure => simp [intOf]; omega
    case neg =>
    obtain rfl : k = L.length := by omega
    have hown := Hown.out
    rw [List.take_length] at hown
    obtain ⟨C, hC⟩ : ∃ C, L.map (chgP (maskN s) s) = C := ⟨_, rfl⟩
    rw [hC] at hown
    have HC := Lib.hid hC
    clear hC
    obtain ⟨AH, cH, rfl, _, _⟩ := hown.form
    have hbr := hbw.trans (below_of_grownBy hg (Nat.le_trans hbb2.size hq1) hbw.size)
    have kE := (k12.below hbc k12.lt).grown hg (by have := k12.lt; simp; omega)
    obtain ⟨y0, y1, y2, _, _⟩ := kE.threeE
    have z0 := kE.frozen 0
    obtain ⟨W9, hW9, hbY, e0, e1, e2⟩ := en_put (.slice AC s.length cC) (.slice AH C.length cH) (.slice AD L.length cD) kE hbr
    have hg9 : wr.grownBy W9 (some (w.heap.size + 1)) := by rw [← hW9]; exact grownBy_trans (grownBy_trans (grownBy_setCell wr _ 0 _) (grownBy_setCell _ _ 1 _)) (grownBy_setCell _ _ 2 _)
    have hc9 := World.ownsRow.kept (World.ownsRow.kept Hcl.out hg (.inr (own_apart Hcl.out kq (by decide)))) hg9 (.inr (own_apart (World.ownsRow.kept Hcl.out hg (.inr (own_apart Hcl.out kq (by decide)))) kE (by decide)))
    have hosr := World.ownsRow.kept Hos.out hg (.inr (own_apart Hos.out kq (by decide)))
    have holr := Hol.out.apartB kq (by decide) hg
    have hos9 := World.ownsRow.kept hosr hg9 (.inr (own_apart hosr kE (by decide)))
    have hol9 := holr.apartB kE (by decide) hg9
    have hown9 := World.ownsRow.kept hown hg9 (.inr (own_apart hown kE (by decide)))
    have q1 : OwnI W9 w.heap.size (.slice AC s.length cC) s := ownsRow_mono hc9 hbb2.size
    have q2 : OwnP W9 w.heap.size (.slice AH C.length cH) C := ownsRow_mono hown9 hbw.size
    have q3 : OwnTS W9 w.heap.size (.slice AD L.length cD) xs := ownsRow_mono hos9 hbb2.size
    have q4 : OwnTL W9 w.heap.size xs L := hol9.mono hbb2.size
    have H9 := Lib.hid (And.intro q1 (And.intro q2 (And.intro q3 (And.intro q4 hbY))))
    rw [← hW9] at e0 e1 e2 H9
    clear q1 q2 q3 q4 hbY hc9 hosr holr hos9 hol9 hown9 hg9 hW9 hown kE
    go_wp2_with fail
    refine bodyPost_ret (v := .tuple #[.agg #[.slice AC s.length cC, .slice AH C.length cH, .slice AD L.length cD], .int .i64 0]) (by simp only [results, Tryd.results17]; simp [go_sem, e0, e1, e2]) rfl ?_
    have hCe : strC n G s kind = C := by unfold strC; rw [HL.out]; exact HC.out
    refine ⟨H9.out.2.2.2.2, .inr ⟨He.out, AC, cC, AH, cH, AD, cD, xs, ?_⟩⟩
    rw [Int.toNat_natCast, hCe, HL.out]
    exact ⟨rfl, H9.out.1, H9.out.2.1, H9.out.2.2.1, H9.out.2.2.2.1, Hfx.out⟩
end Go.Proofs.YtncimnfhfomddaaDoor

/- net.Light, ref21: before, Same. -/
namespace Go.Proofs.YtncimnfhfomddaaDoor
open Go.ChangeShapes Go.WideShapes Go.ChangeAt Go.RowKit

set_option maxHeartbeats 1000000 in
theorem nwLight_any (A : Option Addr) (N : Int) (l : List (Int × Int)) (c : Nat) (w : World) :
    Calls Tryd.prog 11 #[.agg #[.int .i64 N, .slice A l.length c]] w (RetB (.bool (decide (l.length ≤ 300))) w) := by
  go_enter Tryd.func11, Tryd.ntmps11
  go_upto_region 1 with fail
  obtain ⟨W0, hW, c0, c1, hb0, hlt0⟩ := boxed w 24 (.int .i64 N) (.slice A l.length c)
  rw [hW]
  clear hW
  by_cases h : l.length ≤ 300
  · have hd : decide (((l.length : Nat) : Int) ≤ 300) = true := by simp; omega
    have Hh := Lib.hid h
    clear h
    go_wp2_with fail
    go_ret
    exact ⟨rb (by rw [decide_eq_true Hh.out]), hb0⟩
  · have hd : decide (((l.length : Nat) : Int) ≤ 300) = false := by simp; omega
    have Hh := Lib.hid h
    clear h
    go_wp2_with fail
    go_ret
    exact ⟨rb (by rw [decide_eq_false Hh.out]), hb0⟩
/-- fewer changes, or a smaller set, or one that comes first -/
def betE (m1 m2 : Nat) (a b : List Int) : Bool := decide (m1 < m2) || (decide (m1 = m2) && (decide (a.length < b.length) || (decide (a.length = b.length) && decide (cmpLs a b < 0))))
set_option maxRecDepth 100000 in
set_option maxHeartbeats 4000000 in
theorem rBefore_any (AS : Option Addr) (s : List Int) (cS : Nat) (AC : Option Addr) (m1 cC : Nat) (AO : Option Addr) (o1 cO : Nat) (BS : Option Addr) (t : List Int) (dS : Nat) (BC : Option Addr) (m2 dC : Nat) (BO : Option Addr) (o2 dO : Nat) (w : World)
    (h1 : RI w AS s) (h2 : RI w BS t) (hl1 : s.length ≤ 100000) (_hl2 : t.length ≤ 100000) :
    Calls Tryd.prog 70 #[.agg #[.slice AS s.length cS, .slice AC m1 cC, .slice AO o1 cO], .agg #[.slice BS t.length dS, .slice BC m2 dC, .slice BO o2 dO]] w (RetB (.bool (betE m1 m2 s t)) w) := by
  obtain ⟨r, hre⟩ : ∃ r, betE m1 m2 s t = r := ⟨_, rfl⟩
  rw [hre]
  unfold betE at hre
  go_enter Tryd.func70, Tryd.ntmps70
  go_upto_region 1 with fail
  obtain ⟨W0, hW, k0, hb0, hs0⟩ := boxEn w (.slice AS s.length cS) (.slice AC m1 cC) (.slice AO o1 cO)
  rw [hW]
  obtain ⟨W1, hW1, k1, hb1, hs1'⟩ := boxEn W0 (.slice BS t.length dS) (.slice BC m2 dC) (.slice BO o2 dO)
  rw [hW1]
  have hb01 := endB hb0 hb1
  have k01 := k0.below hb1 k0.lt
  rw [hs0] at k1
  have r1 := h1.below hb01
  have r2 := h2.below hb01
  clear hW hW1 k0 hb0 hb1 hs0 hs1' h1 h2
  obtain ⟨n0, n1, n2, _, _⟩ := k01.threeE
  obtain ⟨c0, c1, c2, _, _⟩ := k1.threeE
  by_cases e1 : m1 = m2
  case neg =>
    have hd : (((m1 : Nat) : Int) != ((m2 : Nat) : Int)) = true := by simp; omega
    rw [decide_eq_false e1, Bool.false_and, Bool.or_false] at hre
    have Hre := Lib.hid hre
    clear hre e1
    go_wp2_with fail
    go_ret
    exact ⟨rb Hre.out, hb01⟩
  have hd : (((m1 : Nat) : Int) != ((m2 : Nat) : Int)) = false := by simp; omega
  rw [decide_eq_true e1, Bool.true_and, decide_eq_false (by omega : ¬ m1 < m2), Bool.false_or] at hre
  by_cases e2 : s.length = t.length
  case neg =>
    have hd1 : (((s.length : Nat) : Int) != ((t.length : Nat) : Int)) = true := by simp; omega
    rw [decide_eq_false e2, Bool.false_and, Bool.or_false] at hre
    have Hre := Lib.hid hre
    clear hre e1 e2
    go_wp2_with fail
    go_ret
    exact ⟨rb Hre.out, hb01⟩
  have hd1 : (((s.length : Nat) : Int) != ((t.length : Nat) : Int)) = false := by simp; omega
  rw [decide_eq_true e2, Bool.true_and, decide_eq_false (by omega : ¬ s.length < t.length), Bool.false_or] at hre
  have Hre := Lib.hid hre; have E2 := Lib.hid e2
  clear hre e1 e2
  go_wp2_with fail
  go_loopw [5] (fun i wr => ∃ k : Nat, k ≤ s.length ∧ i = .int .i64 k ∧ decide (cmpLs (s.drop k) (t.drop k) < 0) = r ∧ Below W1.heap.size W1 wr) (fun i _ => s.length - (intOf i).toNat)
  case atStart => exact ⟨0, Nat.zero_le _, rfl, Hre.out, Below.refl _ _⟩
  case round =>
    obtain ⟨k, hk, rfl, hi, hbx⟩ := hrel
    have kx0 := k01.below hbx k01.lt
    have kx1 := k1.below hbx k1.lt
    clear n0 n1 n2 c0 c1 c2
    obtain ⟨n0, n1, n2, _, _⟩ := kx0.threeE
    obtain ⟨c0, c1, c2, _, _⟩ := kx1.threeE
    have hbb := endB hb01 hbx
    by_cases hlt : k < s.length
    case neg =>
      have hz : cmpLs (s.drop k) (t.drop k) = 0 := cmpLs_end (by omega) (by rw [← E2.out]; omega)
      rw [hz] at hi
      have Hi := Lib.hid hi
      clear hi hz
      go_wp2_with fail
      go_ret
      exact ⟨rb (by rw [← Hi.out]; rfl), hbb⟩
    case pos =>
      have hlt2 : k < t.length := by rw [← E2.out]; exact hlt
      have hdr := cmpLs_drop hlt hlt2
      obtain ⟨b, o, rfl, hc1⟩ := (r1.below hbx).at_ hlt
      obtain ⟨b', o', rfl, hc2⟩ := (r2.below hbx).at_ hlt2
      obtain ⟨x, hx⟩ : ∃ x, s[k] = x := ⟨_, rfl⟩
      obtain ⟨y, hy⟩ : ∃ y, t[k] = y := ⟨_, rfl⟩
      rw [hx] at hc1 hdr
      rw [hy] at hc2 hdr
      rw [hdr] at hi
      clear hdr hx hy
      by_cases hxy : x = y
      · subst hxy
        rw [if_neg (by omega), if_neg (by omega)] at hi
        have Hi := Lib.hid hi
        have hne : (x != x) = false := by simp
        clear hi
        go_wp2_with fail
        go_quiet (fail)
        go_wp2_with fail
        go_roundw
        case rel => exact ⟨k + 1, hlt, by go_num, Hi.out, below_drewN hbx nq⟩
        case measure => simp [intOf]; omega
      · have hne : (x != y) = true := by simp [hxy]
        by_cases hl : x < y
        · rw [if_pos hl] at hi
          have hd5 : decide (x < y) = true := decide_eq_true hl
          have Hi := Lib.hid hi
          clear hi hxy
          go_wp2_with fail
          go_quiet (fail)
          go_wp2_with fail
          go_quiet (fail)
          go_wp2_with fail
          go_ret
          exact ⟨rb (by rw [← Hi.out]; rfl), below_drewN (below_drewN hbb _) nq⟩
        · rw [if_neg hl, if_pos (by omega)] at hi
          have hd5 : decide (x < y) = false := decide_eq_false hl
          have Hi := Lib.hid hi
          clear hi hxy
          go_wp2_with fail
          go_quiet (fail)
          go_wp2_with fail
          go_quiet (fail)
          go_wp2_with fail
          go_ret
          exact ⟨rb (by rw [← Hi.out]; rfl), below_drewN (below_drewN hbb _) nq⟩
set_option maxRecDepth 100000 in
set_option maxHeartbeats 4000000 in
/-- Same at equal enforcements -/
theorem rSame_any (AS : Option Addr) (s : List Int) (cS : Nat) (AC : Option Addr) (C : List (Int × Int)) (cC : Nat) (AO : Option Addr) (O : List (List (Int × Int))) (cO : Nat) (BS : Option Addr) (dS : Nat) (BC : Option Addr) (dC : Nat) (BO : Option Addr) (dO : Nat) (w : World)
    (h1 : RI w AS s) (h2 : RI w BS s) (h3 : RP w AC C) (h4 : RP w BC C) (h5 : RTo w AO O) (h6 : RTo w BO O) (hl1 : s.length ≤ 100000) (hl2 : C.length ≤ 100000) (hl3 : O.length ≤ 100000) (hl4 : ∀ d ∈ O, d.length ≤ 100000) :
    Calls Tryd.prog 30 #[.agg #[.slice AS s.length cS, .slice AC C.length cC, .slice AO O.length cO], .agg #[.slice BS s.length dS, .slice BC C.length dC, .slice BO O.length dO]] w (RetB (.bool true) w) := by
  have Hl4 := Lib.hid hl4
  clear hl4
  go_enter Tryd.func30, Tryd.ntmps30
  go_upto_region 1 with fail
  obtain ⟨W0, hW, k0, hb0, hs0⟩ := boxEn w (.slice AS s.length cS) (.slice AC C.length cC) (.slice AO O.length cO)
  rw [hW]
  obtain ⟨W1, hW1, k1, hb1, hs1'⟩ := boxEn W0 (.slice BS s.length dS) (.slice BC C.length dC) (.slice BO O.length dO)
  rw [hW1]
  have hb01 := endB hb0 hb1
  have k01 := k0.below hb1 k0.lt
  rw [hs0] at k1
  have r1 := h1.below hb01
  have r2 := h2.below hb01
  have r5 := h5.below hb01
  have r6 := h6.below hb01
  have hP := nwPairs_any AC BC C C cC dC W1 (h3.below hb01) (h4.below hb01) hl2 hl2
  rw [decide_eq_true rfl] at hP
  have HP := Lib.hid hP
  clear hP hW hW1 k0 hb0 hb1 hs0 hs1' h1 h2 h3 h4 h5 h6
  obtain ⟨n0, n1, n2, _, _⟩ := k01.threeE
  obtain ⟨c0, c1, c2, _, _⟩ := k1.threeE
  go_wp2_with fail
  refine HP.out.mono ?_
  rintro e w2 ⟨rfl, hb2⟩
  have hbb2 := endB hb01 hb2
  have k02 := k01.below hb2 k01.lt
  have k12 := k1.below hb2 k1.lt
  have r12 := r1.below hb2
  have r22 := r2.below hb2
  have r52 := r5.below hb2
  have r62 := r6.below hb2
  clear n0 n1 n2 c0 c1 c2 r1 r2 r5 r6 k01 k1 hb2
  obtain ⟨W2, hW2⟩ : ∃ W2, W2 = w2 := ⟨_, rfl⟩
  subst hW2
  go_wp2_with fail
  go_loopw [5] (fun i wr => ∃ k : Nat, k ≤ s.length ∧ i = .int .i64 k ∧ Below W2.heap.size W2 wr) (fun i _ => s.length - (intOf i).toNat)
  case atStart => exact ⟨0, Nat.zero_le _, rfl, Below.refl _ _⟩
  case round =>
    obtain ⟨k, hk, rfl, hbx⟩ := hrel
    have kx0 := k02.below hbx k02.lt
    have kx1 := k12.below hbx k12.lt
    obtain ⟨n0, n1, n2, _, _⟩ := kx0.threeE
    obtain ⟨c0, c1, c2, _, _⟩ := kx1.threeE
    by_cases hlt : k < s.length
    case pos =>
      obtain ⟨b, o, rfl, hc1⟩ := (r12.below hbx).at_ hlt
      obtain ⟨b', o', rfl, hc2⟩ := (r22.below hbx).at_ hlt
      obtain ⟨x, hx⟩ : ∃ x, s[k] = x := ⟨_, rfl⟩
      rw [hx] at hc1 hc2
      have hne : (x != x) = false := by simp
      go_wp2_with fail
      go_quiet (fail)
      go_wp2_with fail
      go_roundw
      case rel => exact ⟨k + 1, hlt, by go_num, below_drewN hbx nq⟩
      case measure => simp [intOf]; omega
    case neg =>
      have hbb := endB hbb2 hbx
      have r5x := r52.below hbx
      have r6x := r62.below hbx
      obtain ⟨W3, hW3⟩ : ∃ W3, W3 = wr := ⟨_, rfl⟩
      subst hW3
      go_wp2_with fail
      go_loopw [6] (fun i wr => ∃ k : Nat, k ≤ O.length ∧ i = .int .i64 k ∧ Below W3.heap.size W3 wr) (fun i _ => O.length - (intOf i).toNat)
      case atStart => exact ⟨0, Nat.zero_le _, rfl, Below.refl _ _⟩
      case round =>
        clear n0 n1 n2 c0 c1 c2
        obtain ⟨j, hj, rfl, hby⟩ := hrel
        have ky0 := kx0.below hby kx0.lt
        have ky1 := kx1.below hby kx1.lt
        obtain ⟨n0, n1, n2, _, _⟩ := ky0.threeE
        obtain ⟨c0, c1, c2, _, _⟩ := ky1.threeE
        by_cases hlt2 : j < O.length
        case pos =>
          obtain ⟨b, o, AX, cx, rfl, hc1, hri⟩ := (r5x.below hby) j hlt2
          obtain ⟨b', o', BX, dx, rfl, hc2, hri2⟩ := (r6x.below hby) j hlt2
          have hdl := Hl4.out _ (List.getElem_mem hlt2)
          obtain ⟨d, hd⟩ : ∃ d, O[j] = d := ⟨_, rfl⟩
          rw [hd] at hc1 hc2 hri hri2 hdl
          have hQ := fun X (h : Below wr.heap.size wr X) => nwPairs_any AX BX d d cx dx X (hri.below h) (hri2.below h) hdl hdl
          rw [decide_eq_true (p := d = d) rfl] at hQ
          have HQ := Lib.hid hQ
          clear hQ hd hri hri2
          obtain ⟨W4, hW4⟩ : ∃ W4, W4 = wr := ⟨_, rfl⟩
          subst hW4
          go_wp2_with fail
          refine wp_region_textB [10] (fun w' => Below W4.heap.size W4 w') (fun _ => True) (by kernel_rfl) (by kernel_rfl) (by kernel_rfl) (Below.refl _ _).drew trivial ?_
          repeat (first
            | (refine TxtBL.skip (by rfl) ?_; simp only [Act.put, List.setIfInBounds_toArray, List.set_cons_zero, List.set_cons_succ])
            | (refine TxtBL.take (by rfl) (by rfl) ?_; apply Exists.intro; refine ⟨fun w1 hS1 => ?_, ?_⟩; (focus ((have g0 := (hS1.cell (lt_of_cell n2)).trans n2; have g1 := (hS1.cell (lt_of_cell c2)).trans c2; have g2 := (hS1.cell (lt_of_cell hc1)).trans hc1; have g3 := (hS1.cell (lt_of_cell hc2)).trans hc2); go_simp; with_reducible rfl)); simp only [Act.put, List.setIfInBounds_toArray, List.set_cons_zero, List.set_cons_succ])
            | (refine TxtBL.takeE (by rfl) (by rfl) ?_; apply Exists.intro; refine ⟨fun w1 hS1 => ?_, ?_⟩; (focus ((have g0 := (hS1.cell (lt_of_cell n2)).trans n2; have g1 := (hS1.cell (lt_of_cell c2)).trans c2; have g2 := (hS1.cell (lt_of_cell hc1)).trans hc1; have g3 := (hS1.cell (lt_of_cell hc2)).trans hc2); go_simp; with_reducible rfl)); simp only [Act.put, List.setIfInBounds_toArray, List.set_cons_zero, List.set_cons_succ]))
          refine TxtBL.call (f := 45) (args := #[.slice AX d.length cx, .slice BX d.length dx]) (fun u => u = .bool true) (fun _ _ => True) (by rfl) (by rfl) ⟨_, rfl⟩ (fun w1 hS1 hJ1 => by go_simp) (fun w1 hS1 hJ1 => ?_) ?_
          · refine (HQ.out w1 hS1).mono ?_
            rintro e w' ⟨rfl, hb⟩
            exact ⟨_, rfl, hS1.trans (hb.mono hS1.size), rfl, trivial⟩
          rintro _ rfl
          simp only [Act.put, List.setIfInBounds_toArray, List.set_cons_zero, List.set_cons_succ]
          repeat (first
            | (refine TxtBL.skip (by rfl) ?_; simp only [Act.put, List.setIfInBounds_toArray, List.set_cons_zero, List.set_cons_succ])
            | (refine TxtBL.take (by rfl) (by rfl) ?_; apply Exists.intro; refine ⟨fun w1 hS1 => ?_, ?_⟩; (focus (skip; go_simp; with_reducible rfl)); simp only [Act.put, List.setIfInBounds_toArray, List.set_cons_zero, List.set_cons_succ])
            | (refine TxtBL.takeE (by rfl) (by rfl) ?_; apply Exists.intro; refine ⟨fun w1 hS1 => ?_, ?_⟩; (focus (skip; go_simp; with_reducible rfl)); simp only [Act.put, List.setIfInBounds_toArray, List.set_cons_zero, List.set_cons_succ]))
          refine TxtBL.nil (fun W5 hS5 _ => ?_)
          have Hb5 := Lib.hid (hby.trans (hS5.mono hby.size))
          clear hS5 n0 n1 n2 c0 c1 c2 hc1 hc2
          go_wp2_with fail
          go_roundw
          case rel => exact ⟨j + 1, hlt2, by go_num, Hb5.out⟩
          case measure => simp [intOf]; omega
        case neg =>
          go_wp2_with fail
          go_ret
          exact ⟨rfl, endB hbb hby⟩
end Go.Proofs.YtncimnfhfomddaaDoor

/- ref21.Toggle. -/
namespace Go.Proofs.YtncimnfhfomddaaDoor
open Go.ChangeShapes Go.WideShapes Go.ChangeAt Go.RowKit

/-- Toggle's answer -/
def RetTh (N : Int) (G L : List (Int × Int)) (w : World) : Ending → World → Prop := fun e w' => ∃ A c, e = .returned (.tuple #[.agg #[.int .i64 (tgN N G L), .slice A (tgG N G L).length c], .int .i64 (tgErr N G L)]) ∧
  RP w' A (tgG N G L) ∧ (A = none → tgG N G L = [] ∧ c = 0) ∧ (tgG N G L).length ≤ c ∧ Below w.heap.size w w'
theorem th_end {N : Int} {G L : List (Int × Int)} {w X : World} {er : Int} (hk : Blk X (w.heap.size + 1) 24 #[.int .i64 0, .slice none 0 0]) (hb : Below w.heap.size w X) (he : tgErr N G L = er) (h0 : er ≠ 0) :
    RetTh N G L w (.returned (.tuple #[.agg #[.int .i64 0, .slice none 0 0], .int .i64 er])) ((X.setCell ⟨w.heap.size + 1, 0, none⟩ (.int .i64 0)).setCell ⟨w.heap.size + 1, 1, none⟩ (.slice none 0 0)) ∧
    ((X.setCell ⟨w.heap.size + 1, 0, none⟩ (.int .i64 0)).setCell ⟨w.heap.size + 1, 1, none⟩ (.slice none 0 0)).cell? ⟨w.heap.size + 1, 0, none⟩ = some (.int .i64 0) ∧
    ((X.setCell ⟨w.heap.size + 1, 0, none⟩ (.int .i64 0)).setCell ⟨w.heap.size + 1, 1, none⟩ (.slice none 0 0)).cell? ⟨w.heap.size + 1, 1, none⟩ = some (.slice none 0 0) := by
  have k := (hk.set_ 0 (.int .i64 0)).set_ 1 (.slice none 0 0)
  obtain ⟨c0, c1, _, _⟩ := k.two
  refine ⟨⟨none, 0, ?_, ?_, fun _ => ⟨?_, rfl⟩, ?_, ?_⟩, c0, c1⟩
  · unfold tgN tgG; rw [he, if_neg h0, if_neg h0]; rfl
  · unfold tgG; rw [he, if_neg h0]; exact RP.nil _ _
  · unfold tgG; rw [he, if_neg h0]
  · unfold tgG; rw [he, if_neg h0]; exact Nat.le_refl _
  · exact (hb.setCell (p := ⟨w.heap.size + 1, 0, none⟩) (Nat.le_succ _) _).setCell (p := ⟨w.heap.size + 1, 1, none⟩) (Nat.le_succ _) _
/-- a list of pairs is never in a graph's box -/
theorem RP.apartG {w : World} {A : Option Addr} {l : List (Int × Int)} {q : Nat} {t : TypeId} {x v : Value} (h : RP w A l) (k : Blk w q t #[x, v]) (hv : ∀ k i, v ≠ .int k i) : ∀ b o, A = some ⟨b, o, none⟩ → 0 < l.length → b ≠ q := fun b o hA hl e => by
  subst e
  obtain ⟨b', o', hA', h1, h2⟩ := h 0 hl
  rw [hA] at hA'
  injection hA' with hA'; injection hA' with hA1 hA2; subst hA1; subst hA2
  rw [k.cell] at h1 h2
  have h3 : o + 0 * 2 + 1 < 2 := by
    have := (Array.getElem?_eq_some_iff.1 h2).1
    simpa using this
  have h4 : o + 0 * 2 + 1 = 1 := by omega
  rw [h4] at h2
  have h5 : some v = some (Value.int .i64 (l.getD 0 (0, 0)).2) := h2
  injection h5 with h5
  exact hv _ _ h5
theorem th_ret {N : Int} {G L : List (Int × Int)} {w X : World} {A2 : Option Addr} {ln c2 : Nat} (hk : Blk X (w.heap.size + 1) 24 #[.int .i64 0, .slice none 0 0]) (hb : Below w.heap.size w X) (hp : RP X A2 (tgL G L)) (hf : (A2 = none → tgL G L = [] ∧ c2 = 0) ∧ (tgL G L).length ≤ c2)
    (he : tgErr N G L = 0) (hn : ln = (tgL G L).length) :
    RetTh N G L w (.returned (.tuple #[.agg #[.int .i64 N, .slice A2 ln c2], .int .i64 0])) ((X.setCell ⟨w.heap.size + 1, 0, none⟩ (.int .i64 N)).setCell ⟨w.heap.size + 1, 1, none⟩ (.slice A2 ln c2)) ∧
    ((X.setCell ⟨w.heap.size + 1, 0, none⟩ (.int .i64 N)).setCell ⟨w.heap.size + 1, 1, none⟩ (.slice A2 ln c2)).cell? ⟨w.heap.size + 1, 0, none⟩ = some (.int .i64 N) ∧
    ((X.setCell ⟨w.heap.size + 1, 0, none⟩ (.int .i64 N)).setCell ⟨w.heap.size + 1, 1, none⟩ (.slice A2 ln c2)).cell? ⟨w.heap.size + 1, 1, none⟩ = some (.slice A2 ln c2) := by
  subst hn
  have k := (hk.set_ 0 (.int .i64 N)).set_ 1 (.slice A2 (tgL G L).length c2)
  obtain ⟨c0, c1, _, _⟩ := k.two
  refine ⟨⟨A2, c2, ?_, ?_, ?_, ?_, ?_⟩, c0, c1⟩
  · unfold tgN tgG; rw [he, if_pos rfl, if_pos rfl]
  · unfold tgG; rw [he, if_pos rfl]; exact hp.far2 (hp.apartG hk (fun _ _ e => by cases e)) _ _
  · unfold tgG; rw [he, if_pos rfl]; exact hf.1
  · unfold tgG; rw [he, if_pos rfl]; exact hf.2
  · exact (hb.setCell (p := ⟨w.heap.size + 1, 0, none⟩) (Nat.le_succ _) _).setCell (p := ⟨w.heap.size + 1, 1, none⟩) (Nat.le_succ _) _
theorem togsR_step {G L : List (Int × Int)} {k : Nat} (h : k < L.length) : togsR G (L.take (k + 1)) = togR (togsR G (L.take k)) L[k] := by
  rw [List.take_succ_eq_append_getElem h]
  unfold togsR
  rw [List.foldl_append]; rfl
def okB (n : Nat) (p : Int × Int) : Bool := decide (0 ≤ p.1) && decide (p.1 < n) && decide (0 ≤ p.2) && decide (p.2 < n)
theorem okB_iff {n : Nat} {p : Int × Int} : okB n p = true ↔ okP n p := by unfold okB okP; simp only [Bool.and_eq_true, decide_eq_true_iff, and_assoc]
theorem okB_no {n : Nat} {p : Int × Int} (h : okB n p = false) : ¬ okP n p := fun e => by rw [okB_iff.2 e] at h; cases h
set_option maxRecDepth 100000 in
set_option maxHeartbeats 4000000 in
theorem rToggle_any (A A2 : Option Addr) (N : Int) (G L : List (Int × Int)) (c c2 : Nat) (w : World) (hr : RP w A G) (hr2 : RP w A2 L) (hl : G.length + L.length ≤ 100000) (hA : A = none → G = [] ∧ c = 0) (hc : G.length ≤ c) (hc2 : L.length ≤ c2) :
    Calls Tryd.prog 26 #[.agg #[.int .i64 N, .slice A G.length c], .slice A2 L.length c2] w (RetTh N G L w) := by
  have HA := Lib.hid hA
  clear hA
  go_enter Tryd.func26, Tryd.ntmps26
  go_wp2_with fail
  obtain ⟨W0, hW, k0, k1, hb0, hlt0⟩ := boxed2 w 24 24 (.int .i64 N) (.slice A G.length c) (.int .i64 0) (.slice none 0 0)
  rw [hW]
  have hr0 := hr.below hb0
  clear hW
  refine (r10Validate_any _ _ _ _ _ hr0 (by omega)).mono ?_
  rintro e w1 ⟨rfl, hb⟩
  have j0 := k0.below hb k0.lt
  have j1 := k1.below hb k1.lt
  have hbb := endB hb0 hb
  clear k0 k1 hb0 hb hr0
  by_cases hv0 : valE N G = 0
  case neg =>
    obtain ⟨b0, b1, b2, b3⟩ := j1.two
    have hd : (valE N G != 0) = true := by simp [hv0]
    obtain ⟨h1, e0, e1⟩ := th_end (N := N) (G := G) (L := L) j1 hbb (by unfold tgErr; rw [if_neg hv0]) hv0
    have H1 := Lib.hid h1
    clear h1
    go_wp2_with fail
    refine bodyPost_ret (v := .tuple #[.agg #[.int .i64 0, .slice none 0 0], .int .i64 (valE N G)]) (by simp [results, Tryd.results26, go_sem] at e0 e1 ⊢; simp [e0, e1]) rfl ?_
    exact H1.out
  have hd : (valE N G != 0) = false := by simp [hv0]
  obtain ⟨n, rfl, hv⟩ := vld_of_valE hv0 (by omega)
  have Hv := Lib.hid hv
  have Hv0 := Lib.hid hv0
  clear hv hv0
  go_wp2_with fail
  go_loopw [7] (fun i wr => ∃ k : Nat, k ≤ L.length ∧ i = .int .i64 k ∧ (∀ p ∈ L.take k, okP n p) ∧ Blk wr w.heap.size 24 #[.int .i64 (n : Int), .slice A G.length c] ∧ Blk wr (w.heap.size + 1) 24 #[.int .i64 0, .slice none 0 0] ∧ Below w.heap.size w wr) (fun i _ => L.length - (intOf i).toNat)
  case atStart => exact ⟨0, Nat.zero_le _, rfl, (fun _ h => by simp at h), j0, j1, hbb⟩
  case round =>
    clear j0 j1 hbb
    obtain ⟨k, hk, rfl, hok, k0, k1, hbw⟩ := hrel
    have Hok := Lib.hid hok
    clear hok
    by_cases hlt : k < L.length
    case pos =>
      obtain ⟨b, o, rfl, hc1, hd2⟩ := (hr2.below hbw).at_ hlt
      obtain ⟨c0, c1, _, _⟩ := k0.two
      go_upto_region 7 with fail
      go_cut [55] (fun v wx => v = .bool (!okB n L[k]) ∧ Blk wx w.heap.size 24 #[.int .i64 (n : Int), .slice A G.length c] ∧ Blk wx (w.heap.size + 1) 24 #[.int .i64 0, .slice none 0 0] ∧ Below w.heap.size w wx)
      case first =>
        obtain ⟨r, hrr⟩ : ∃ r, okB n L[k] = r := ⟨_, rfl⟩
        have HR := Lib.hid hrr
        unfold okB at hrr
        by_cases t1 : L[k].1 < 0
        · have d1 : decide (L[k].1 < 0) = true := decide_eq_true t1
          rw [decide_eq_false (show ¬ 0 ≤ L[k].1 by omega)] at hrr
          simp only [Bool.false_and] at hrr
          subst hrr
          clear t1
          go_quiet (fail)
          go_wp2_with fail
          go_meet
          exact ⟨by rw [HR.out]; rfl, k0, k1, below_drewN hbw nq⟩
        have d1 : decide (L[k].1 < 0) = false := decide_eq_false t1
        rw [decide_eq_true (show 0 ≤ L[k].1 by omega), Bool.true_and] at hrr
        clear t1
        by_cases t2 : (n : Int) ≤ L[k].1
        · have d2 : decide ((n : Int) ≤ L[k].1) = true := decide_eq_true t2
          rw [decide_eq_false (show ¬ L[k].1 < (n : Int) by omega)] at hrr
          simp only [Bool.false_and] at hrr
          subst hrr
          clear t2
          go_quiet (fail)
          go_wp2_with fail
          go_meet
          exact ⟨by rw [HR.out]; rfl, k0, k1, below_drewN hbw nq⟩
        have d2 : decide ((n : Int) ≤ L[k].1) = false := decide_eq_false t2
        rw [decide_eq_true (show L[k].1 < (n : Int) by omega), Bool.true_and] at hrr
        clear t2
        by_cases t3 : L[k].2 < 0
        · have d3 : decide (L[k].2 < 0) = true := decide_eq_true t3
          rw [decide_eq_false (show ¬ 0 ≤ L[k].2 by omega)] at hrr
          simp only [Bool.false_and] at hrr
          subst hrr
          clear t3
          go_quiet (fail)
          go_wp2_with fail
          go_meet
          exact ⟨by rw [HR.out]; rfl, k0, k1, below_drewN hbw nq⟩
        have d3 : decide (L[k].2 < 0) = false := decide_eq_false t3
        rw [decide_eq_true (show 0 ≤ L[k].2 by omega), Bool.true_and] at hrr
        clear t3
        have d4 : decide ((n : Int) ≤ L[k].2) = !r := by
          rw [← hrr]
          by_cases t4 : (n : Int) ≤ L[k].2
          · rw [decide_eq_true t4, decide_eq_false (show ¬ L[k].2 < (n : Int) by omega)]; rfl
          · rw [decide_eq_false t4, decide_eq_true (show L[k].2 < (n : Int) by omega)]; rfl
        clear hrr
        go_quiet (fail)
        go_wp2_with fail
        go_meet
        exact ⟨by rw [HR.out], k0, k1, below_drewN hbw nq⟩
      obtain ⟨rfl, k0, k1, hbw⟩ := hcut
      clear c0 c1 hc1 hd2
      cases hob : okB n L[k]
      case false =>
        have her : tgErr n G L = 1 := by unfold tgErr; rw [if_pos Hv0.out]; exact tgE_one hlt (okB_no hob)
        obtain ⟨h1, f0, f1⟩ := th_end (N := n) (G := G) (L := L) k1 hbw her (by omega)
        have H1 := Lib.hid h1
        clear h1 her hob
        obtain ⟨b0, b1, b2, b3⟩ := k1.two
        go_wp2_with fail
        refine bodyPost_ret (v := .tuple #[.agg #[.int .i64 0, .slice none 0 0], .int .i64 1]) (by simp [results, Tryd.results26, go_sem] at f0 f1 ⊢; simp [f0, f1]) rfl ?_
        exact H1.out
      case true =>
        have hok' : ∀ p ∈ L.take (k + 1), okP n p := fun p hp => by
          rcases (mem_take_succ hlt p).1 hp with rfl | hp
          · exact okB_iff.1 hob
          · exact Hok.out p hp
        have Hok' := Lib.hid hok'
        clear hok' hob
        go_wp2_with fail
        go_roundw
        case rel => exact ⟨k + 1, hlt, by go_num, Hok'.out, k0, k1, hbw⟩
        case measure => simp [intOf]; omega
    case neg =>
    obtain rfl : k = L.length := by omega
    have hok := Hok.out
    rw [List.take_length] at hok
    have Hok := Lib.hid hok
    clear hok hk
    go_wp2_with fail
    go_loopw [8] (fun i wr => ∃ k : Nat, k ≤ L.length ∧ i = .int .i64 k ∧ (L.take k).Nodup ∧ Blk wr w.heap.size 24 #[.int .i64 (n : Int), .slice A G.length c] ∧ Blk wr (w.heap.size + 1) 24 #[.int .i64 0, .slice none 0 0] ∧ Below w.heap.size w wr) (fun i _ => L.length - (intOf i).toNat)
    case atStart => exact ⟨0, Nat.zero_le _, rfl, by simp, k0, k1, hbw⟩
    case round =>
      clear k0 k1 hbw hlt
      obtain ⟨k, hk, rfl, hnd, k0, k1, hbw⟩ := hrel
      have Hnd := Lib.hid hnd
      clear hnd
      by_cases hlt : k < L.length
      case pos =>
        obtain ⟨b, o, rfl, hc1, hd2⟩ := (hr2.below hbw).at_ hlt
        obtain ⟨b0, b1, b2, b3⟩ := k1.two
        have hsl := run_preP (some ⟨b, o, none⟩) L.length c2 k (by omega)
        have hin : ∀ r, hasB (L.take k) L[k].1 L[k].2 = r → (r = true → tgErr n G L = 5) ∧ (r = false → (L.take (k + 1)).Nodup) := fun r hrr => by
          refine ⟨fun e => ?_, fun e => ?_⟩
          · rw [e] at hrr
            unfold tgErr; rw [if_pos Hv0.out]; exact tgE_five Hok.out hlt (hasB_iff.1 hrr)
          · rw [e] at hrr
            exact nodup_take hlt Hnd.out (hasB_false.1 hrr)
        have hpr := (hr2.below hbw).take k
        have hTl : (L.take k).length = k := by rw [List.length_take]; omega
        obtain ⟨T, hT⟩ : ∃ T, L.take k = T := ⟨_, rfl⟩
        obtain ⟨x, hx⟩ : ∃ x, L[k] = x := ⟨_, rfl⟩
        rw [hT] at hpr hTl
        rw [hT, hx] at hin
        rw [hx] at hc1 hd2
        have hhas := fun W (hW : Below wr.heap.size wr W) => rHas_any (some ⟨b, o, none⟩) T c2 x.1 x.2 W (hpr.below hW) (by omega)
        obtain ⟨r, hrr⟩ : ∃ r, hasB T x.1 x.2 = r := ⟨_, rfl⟩
        obtain ⟨hr5, hr6⟩ := hin r hrr
        rw [hrr, hTl] at hhas
        have Hhas := Lib.hid hhas; have Hr5 := Lib.hid hr5; have Hr6 := Lib.hid hr6
        clear hhas hin hr5 hr6 hpr hTl hT hx hrr
        go_upto_region 12 with fail
        go_cut [70] (fun v wx => v = .bool r ∧ Below wr.heap.size wr wx)
        case first =>
          refine wp_region_textB [7] (fun w' => Below wr.heap.size wr w') (fun _ => True) (by kernel_rfl) (by kernel_rfl) (by kernel_rfl) (Below.refl _ _).drew trivial ?_
          repeat (first
            | (refine TxtBL.skip (by rfl) ?_; simp only [Act.put, List.setIfInBounds_toArray, List.set_cons_zero, List.set_cons_succ])
            | (refine TxtBL.take (by rfl) (by rfl) ?_; apply Exists.intro; refine ⟨fun w1 hS1 => ?_, ?_⟩; (focus ((have g0 := (hS1.cell (lt_of_cell hc1)).trans hc1; have g1 := (hS1.cell (lt_of_cell hd2)).trans hd2); go_simp; with_reducible rfl)); simp only [Act.put, List.setIfInBounds_toArray, List.set_cons_zero, List.set_cons_succ])
            | (refine TxtBL.takeE (by rfl) (by rfl) ?_; apply Exists.intro; refine ⟨fun w1 hS1 => ?_, ?_⟩; (focus ((have g0 := (hS1.cell (lt_of_cell hc1)).trans hc1; have g1 := (hS1.cell (lt_of_cell hd2)).trans hd2); go_simp; with_reducible rfl)); simp only [Act.put, List.setIfInBounds_toArray, List.set_cons_zero, List.set_cons_succ]))
          refine TxtBL.call (f := 23) (args := #[.slice (some ⟨b, o, none⟩) k c2, .agg #[.int .i64 x.1, .int .i64 x.2]]) (fun u => u = .bool r) (fun _ _ => True) (by rfl) (by rfl) ⟨_, rfl⟩ (fun w1 hS1 hJ1 => by go_simp) (fun w1 hS1 hJ1 => ?_) ?_
          · refine (Hhas.out w1 hS1).mono ?_
            rintro e w' ⟨rfl, hb⟩
            exact ⟨_, rfl, hS1.trans (hb.mono hS1.size), rfl, trivial⟩
          rintro _ rfl
          simp only [Act.put, List.setIfInBounds_toArray, List.set_cons_zero, List.set_cons_succ]
          repeat (first
            | (refine TxtBL.skip (by rfl) ?_; simp only [Act.put, List.setIfInBounds_toArray, List.set_cons_zero, List.set_cons_succ])
            | (refine TxtBL.take (by rfl) (by rfl) ?_; apply Exists.intro; refine ⟨fun w1 hS1 => ?_, ?_⟩; (focus (skip; go_simp; with_reducible rfl)); simp only [Act.put, List.setIfInBounds_toArray, List.set_cons_zero, List.set_cons_succ])
            | (refine TxtBL.takeE (by rfl) (by rfl) ?_; apply Exists.intro; refine ⟨fun w1 hS1 => ?_, ?_⟩; (focus (skip; go_simp; with_reducible rfl)); simp only [Act.put, List.setIfInBounds_toArray, List.set_cons_zero, List.set_cons_succ]))
          refine TxtBL.nil (fun W2 hS2 _ => ?_)
          go_wp2_with fail
          go_meet
          exact ⟨rfl, hS2⟩
        obtain ⟨rfl, hb2⟩ := hcut
        have k02 := k0.below hb2 k0.lt
        have k12 := k1.below hb2 k1.lt
        have hbw2 := endB hbw hb2
        clear k0 k1 hbw hc1 hd2 hsl b0 b1 b2 b3 hb2
        obtain ⟨b0, b1, b2, b3⟩ := k12.two
        cases r
        case true =>
          obtain ⟨h1, f0, f1⟩ := th_end (N := n) (G := G) (L := L) k12 hbw2 (Hr5.out rfl) (by omega)
          have H1 := Lib.hid h1
          clear h1
          go_wp2_with fail
          refine bodyPost_ret (v := .tuple #[.agg #[.int .i64 0, .slice none 0 0], .int .i64 5]) (by simp [results, Tryd.results26, go_sem] at f0 f1 ⊢; simp [f0, f1]) rfl ?_
          exact H1.out
        case false =>
          have Hnd' := Lib.hid (Hr6.out rfl)
          go_wp2_with fail
          go_roundw
          case rel => exact ⟨k + 1, hlt, by go_num, Hnd'.out, k02, k12, hbw2⟩
          case measure => simp [intOf]; omega
      case neg =>
      obtain rfl : k = L.length := by omega
      have hnd := Hnd.out
      rw [List.take_length] at hnd
      have Hnd := Lib.hid hnd
      clear hnd hk
      go_wp2_with fail
      go_loopw [9] (fun i wr => ∃ (k : Nat) (AG : Option Addr) (cG : Nat), k ≤ L.length ∧ i = .int .i64 k ∧ Blk wr w.heap.size 24 #[.int .i64 (n : Int), .slice AG (togsR G (L.take k)).length cG] ∧ RP wr AG (togsR G (L.take k)) ∧ (AG = none → togsR G (L.take k) = [] ∧ cG = 0) ∧ (togsR G (L.take k)).length ≤ cG ∧ Blk wr (w.heap.size + 1) 24 #[.int .i64 0, .slice none 0 0] ∧ Below w.heap.size w wr) (fun i _ => L.length - (intOf i).toNat)
      case atStart => exact ⟨0, A, c, Nat.zero_le _, rfl, k0, hr.below hbw, HA.out, hc, k1, hbw⟩
      case round =>
        clear k0 k1 hbw hlt
        obtain ⟨k, AG, cG, hk, rfl, k0, hrg, hfg, hcg, k1, hbw⟩ := hrel
        have hgl := togsR_len G (L.take k)
        rw [List.length_take] at hgl
        by_cases hlt : k < L.length
        case pos =>
          obtain ⟨b, o, rfl, hc1, hd2⟩ := (hr2.below hbw).at_ hlt
          have hstp := togsR_step (G := G) hlt
          obtain ⟨H, hH⟩ : ∃ H, togsR G (L.take k) = H := ⟨_, rfl⟩
          obtain ⟨x, hx⟩ : ∃ x, L[k] = x := ⟨_, rfl⟩
          rw [hH, hx] at hstp
          rw [hx] at hc1 hd2
          have hk0H := k0
          rw [hH] at hk0H hrg hfg hcg hgl
          obtain ⟨nH, hnH⟩ : ∃ nH, (togsR G (L.take k)).length = nH := ⟨_, rfl⟩
          have hnH' : nH = H.length := by rw [← hnH, hH]
          have htg := fun W (hW : Below wr.heap.size wr W) => rTog_any AG (n : Int) H cG x W (hrg.below hW) (by omega) hfg hcg
          have hapq := hrg.apartG hk0H (fun _ _ e => by cases e)
          rw [← hnH'] at htg hk0H
          have Htg := Lib.hid htg; have Hstp := Lib.hid hstp
          clear htg hstp hH hx hnH hnH' hrg hfg hcg hgl k0 hapq
          obtain ⟨c0, c1, c2', c3'⟩ := hk0H.two
          go_upto_region 17 with fail
          refine wp_region_textZ [5, 6] (fun w' => Below wr.heap.size wr w') (fun _ => True) (by kernel_rfl) (by kernel_rfl) (by kernel_rfl) (by kernel_rfl) (Below.refl _ _).drew trivial ?_
          repeat (first
            | (refine TxtZL.skip (by rfl) ?_; simp only [Act.put, List.setIfInBounds_toArray, List.set_cons_zero, List.set_cons_succ])
            | (refine TxtZL.take (by rfl) (by rfl) ?_; apply Exists.intro; refine ⟨fun w1 hS1 => ?_, ?_⟩; (focus ((have g0 := (hS1.cell (lt_of_cell hc1)).trans hc1; have g1 := (hS1.cell (lt_of_cell hd2)).trans hd2; have g2 := (hS1.cell (lt_of_cell c0)).trans c0; have g3 := (hS1.cell (lt_of_cell c1)).trans c1); go_simp; with_reducible rfl)); simp only [Act.put, List.setIfInBounds_toArray, List.set_cons_zero, List.set_cons_succ])
            | (refine TxtZL.takeE' (by rfl) (by rfl) ?_; apply Exists.intro; refine ⟨fun w1 hS1 => ?_, ?_⟩; (focus ((have g0 := (hS1.cell (lt_of_cell hc1)).trans hc1; have g1 := (hS1.cell (lt_of_cell hd2)).trans hd2; have g2 := (hS1.cell (lt_of_cell c0)).trans c0; have g3 := (hS1.cell (lt_of_cell c1)).trans c1); go_simp; with_reducible rfl)); simp only [Act.put, List.setIfInBounds_toArray, List.set_cons_zero, List.set_cons_succ]))
          refine TxtZL.call (f := 59) (args := #[.agg #[.int .i64 (n : Int), .slice AG nH cG], .agg #[.int .i64 x.1, .int .i64 x.2]]) (fun u => ∃ A' nZ c', u = Value.agg #[.int .i64 (n : Int), .slice A' nZ c']) (fun u w' => ∃ A' c', u = Value.agg #[.int .i64 (n : Int), .slice A' (togR H x).length c'] ∧ RP w' A' (togR H x) ∧ (A' = none → togR H x = [] ∧ c' = 0) ∧ (togR H x).length ≤ c') (by rfl) (by rfl) ⟨_, none, 0, 0, rfl⟩ (fun w1 hS1 hJ1 => by go_simp) (fun w1 hS1 hJ1 => ?_) ?_
          · refine (Htg.out w1 hS1).mono ?_
            rintro e w' ⟨A', c', rfl, h1, h2, h3, hb⟩
            exact ⟨_, rfl, hS1.trans (hb.mono hS1.size), ⟨A', _, c', rfl⟩, A', c', rfl, h1, h2, h3⟩
          rintro _ ⟨A', nZ, c', rfl⟩
          simp only [Act.put, List.setIfInBounds_toArray, List.set_cons_zero, List.set_cons_succ]
          refine TxtZL.last (fun w' => nZ = (togR H x).length ∧ RP w' A' (togR H x) ∧ (A' = none → togR H x = [] ∧ c' = 0) ∧ (togR H x).length ≤ c' ∧ Blk w' w.heap.size 24 #[.int .i64 (n : Int), .slice A' nZ c'] ∧ Blk w' (w.heap.size + 1) 24 #[.int .i64 0, .slice none 0 0] ∧ Below w.heap.size w w') (by rfl) (by rfl) (fun w4 hS4 hJ4 => ?_) ?_
          · obtain ⟨A9, c9, e9, h1, h2, h3⟩ := hJ4
            simp only [Value.agg.injEq, Array.mk.injEq, List.cons.injEq, Value.slice.injEq, true_and, and_true] at e9
            obtain ⟨e9a, e9b, e9c⟩ := e9
            subst e9a; subst e9c
            have j0 := hk0H.below hS4 hk0H.lt
            have j1 := k1.below hS4 k1.lt
            obtain ⟨g0, g1, g2, g3⟩ := j0.two
            exact Eff.skip (w' := (w4.setCell ⟨w.heap.size, 0, none⟩ (.int .i64 (n : Int))).setCell ⟨w.heap.size, 1, none⟩ (.slice A' nZ c')) (by go_simp) ⟨e9b, h1.far2 (h1.apartG j0 (fun _ _ e => by cases e)) _ _, h2, h3, (j0.set_ 0 _).set_ 1 _, (j1.far (p := ⟨w.heap.size, 0, none⟩) (by simp) _).far (p := ⟨w.heap.size, 1, none⟩) (by simp) _,
              ((endB hbw hS4).setCell (p := ⟨w.heap.size, 0, none⟩) (Nat.le_refl _) _).setCell (p := ⟨w.heap.size, 1, none⟩) (Nat.le_refl _) _⟩
          rintro u2 w5 ⟨e5, h1, h2, h3, j0, j1, hb5⟩
          simp only [Act.put]
          rw [← Hstp.out] at e5 h1 h2 h3
          rw [e5] at j0
          have H5 := Lib.hid (And.intro j0 (And.intro h1 (And.intro h2 h3)))
          clear j0 h1 h2 h3 e5 c0 c1 c2' c3' hc1 hd2
          go_wp2_with fail
          go_roundw
          case rel => exact ⟨k + 1, A', c', hlt, by go_num, H5.out.1, H5.out.2.1, H5.out.2.2.1, H5.out.2.2.2, j1, hb5⟩
          case measure => simp [intOf]; omega
        case neg =>
          obtain rfl : k = L.length := by omega
          have heq : togsR G (L.take L.length) = tgL G L := by rw [List.take_length]; exact togsR_tgL Hv.out.2 Hnd.out
          obtain ⟨nH, hnH⟩ : ∃ nH, (togsR G (L.take L.length)).length = nH := ⟨_, rfl⟩
          have hnT : nH = (tgL G L).length := by rw [← hnH, heq]
          have her : tgErr n G L = 0 := by unfold tgErr; rw [if_pos Hv0.out]; exact tgE_ok Hok.out Hnd.out
          obtain ⟨c0, c1, _, _⟩ := k0.two
          obtain ⟨b0, b1, b2, b3⟩ := k1.two
          rw [heq] at hrg hfg hcg
          rw [hnH] at c1
          obtain ⟨h1, f0, f1⟩ := th_ret (N := n) (G := G) (L := L) (A2 := AG) (ln := nH) (c2 := cG) k1 hbw hrg ⟨hfg, hcg⟩ her hnT
          have H1 := Lib.hid h1
          clear h1 her hnT heq hrg hfg hcg k0 hgl hnH
          go_wp2_with fail
          refine bodyPost_ret (v := .tuple #[.agg #[.int .i64 (n : Int), .slice AG nH cG], .int .i64 0]) (by simp [results, Tryd.results26, go_sem] at f0 f1 ⊢; simp [f0, f1]) rfl ?_
          exact H1.out
end Go.Proofs.YtncimnfhfomddaaDoor

/- ref21.Loose. -/
namespace Go.Proofs.YtncimnfhfomddaaDoor
open Go.ChangeShapes Go.WideShapes Go.ChangeAt Go.RowKit

/-- whether a node is in the k-th set, after the first j of the free nodes -/
def inJ (s R : List Int) (k j a : Nat) : Bool := inB s (a : Int) || (List.range j).any fun i => decide (R.getD i 0 = (a : Int)) && k.testBit i
theorem inJ_succ (s R : List Int) (k j a : Nat) : inJ s R k (j + 1) a = (inJ s R k j a || (decide (R.getD j 0 = (a : Int)) && k.testBit j)) := by
  unfold inJ
  rw [List.range_succ, List.any_append, ← Bool.or_assoc]
  simp
theorem canL_inJ (n : Nat) (s : List Int) (k : Nat) : canL n s k = nodesB n (inJ s (rstL n s) k (rstL n s).length) := rfl
/-- the best so far, in memory: a box -/
def BestR (n : Nat) (G : List (Int × Int)) (kind : Int) (w : World) (g : Nat) (f : Value) (o : Option (List Int)) : Prop :=
  ∃ AC m1 cC AH m2 cH AD m3 cD, Blk w g 28 #[.slice AC m1 cC, .slice AH m2 cH, .slice AD m3 cD] ∧
  match o with
  | none => f = .bool false
  | some b => f = .bool true ∧ m1 = b.length ∧ m2 = (strC n G b kind).length ∧ m3 = (dutL n G b kind).length ∧ ∃ xs, OwnI w g (.slice AC m1 cC) b ∧ OwnP w g (.slice AH m2 cH) (strC n G b kind) ∧ OwnTS w g (.slice AD m3 cD) xs ∧ OwnTL w g xs (dutL n G b kind) ∧ setB n b = true
theorem BestR.below {n : Nat} {G : List (Int × Int)} {kind : Int} {w w' : World} {g : Nat} {f : Value} {o : Option (List Int)} (h : BestR n G kind w g f o) (hb : Below w.heap.size w w') : BestR n G kind w' g f o := by
  obtain ⟨AC, m1, cC, AH, m2, cH, AD, m3, cD, k, h⟩ := h
  refine ⟨AC, m1, cC, AH, m2, cH, AD, m3, cD, k.below hb k.lt, ?_⟩
  cases o with
  | none => exact h
  | some b => obtain ⟨h1, h2, h3, h4, xs, h5, h6, h7, h8, h9⟩ := h; exact ⟨h1, h2, h3, h4, xs, ownsRow_below h5 hb, ownsRow_below h6 hb, ownsRow_below h7 hb, h8.below hb, h9⟩
theorem own_riL {w : World} {b : Nat} {A : Option Addr} {c : Nat} {l : List Int} (h : OwnI w b (.slice A l.length c) l) : RI w A l := by
  obtain ⟨A', c', e, h1, h2⟩ := OwnI.form2 h
  injection e with e1 _ e3
  subst e1
  exact h1
set_option maxRecDepth 100000 in
set_option maxHeartbeats 8000000 in
theorem rLoose_any (A : Option Addr) (N : Int) (G : List (Int × Int)) (c : Nat) (Bs : Option Addr) (s : List Int) (cs : Nat) (kind : Int) (w : World) (hr : RP w A G) (hl : G.length ≤ 100000) (hs : RI w Bs s) (hls : s.length ≤ 100000) :
    Calls Tryd.prog 29 #[.agg #[.int .i64 N, .slice A G.length c], .slice Bs s.length cs, .int .i64 kind] w (RetEo N G s kind w) := by
  go_enter Tryd.func29, Tryd.ntmps29
  go_upto_region 1 with fail
  obtain ⟨W0, hW, k0, hb0, hs0⟩ := boxG w N A G.length c
  rw [hW]
  obtain ⟨W1, hW1, k1, hb1, hs1'⟩ := boxE W0
  rw [hW1]
  have hb01 := endB hb0 hb1
  have k01 := k0.below hb1 k0.lt
  rw [hs0] at k1
  clear hW hW1 k0 hb0 hb1 hs0 hs1'
  obtain ⟨d0, d1, _, _⟩ := k01.two
  go_wp2_with fail
  refine (rPos_any A N G c Bs s cs kind W1 (hr.below hb01) hl (hs.below hb01) hls).mono ?_
  rintro e w2 ⟨rfl, hb2⟩
  have hbb2 := endB hb01 hb2
  have k12 := k1.below hb2 k1.lt
  have k02 := k01.below hb2 k01.lt
  clear d0 d1 k01 k1 hb01 hb2
  obtain ⟨d0, d1, _, _⟩ := k02.two
  by_cases ha : arE N G s kind = 0
  case neg =>
    have he : loErr N G s kind = arE N G s kind := by unfold loErr; rw [if_neg ha]
    have hd : (arE N G s kind != 0) = true := by simp [ha]
    obtain ⟨Y, hY, hbY, e0, e1, e2⟩ := en_put (.slice none 0 0) (.slice none 0 0) (.slice none 0 0) k12 hbb2
    rw [← hY] at e0 e1 e2
    have HbY := Lib.hid hbY
    rw [← hY] at HbY
    clear hY hbY
    obtain ⟨y0, y1, y2, _, _⟩ := k12.threeE
    have z0 := k12.frozen 0
    go_wp2_with fail
    refine bodyPost_ret (v := .tuple #[.agg #[.slice none 0 0, .slice none 0 0, .slice none 0 0], .int .i64 (arE N G s kind)]) (by simp only [results, Tryd.results29]; simp [go_sem, e0, e1, e2]) rfl ?_
    exact ⟨HbY.out, .inl ⟨by rw [he]; exact ha, by rw [he]⟩⟩
  have hd : (arE N G s kind != 0) = false := by simp [ha]
  obtain ⟨hv0, hk, hsb⟩ := arE_ok ha
  obtain ⟨n, rfl, hv⟩ := vld_of_valE hv0 hl
  have hn40 := hv.1.1
  have hle : loErr n G s kind = if 10 < (rstL n s).length then 2 else 0 := by unfold loErr; rw [if_pos ha, Int.toNat_natCast]
  have hrl := rst_len (n := n) (s := s)
  have Hv := Lib.hid hv; have Hk := Lib.hid hk; have Hsb := Lib.hid hsb; have Hle := Lib.hid hle
  clear hv hk hsb hv0 hle ha
  obtain ⟨W2, hW2⟩ : ∃ W2, W2 = w2 := ⟨_, rfl⟩
  subst hW2
  go_wp2_with fail
  go_loopw [9, 10] (fun v i wr => ∃ k : Nat, k ≤ n ∧ i = .int .i64 (k : Int) ∧ OwnI wr W2.heap.size v (nodesB k fun a => !inB s (a : Int)) ∧ Below W2.heap.size W2 wr) (fun _ i _ => n - (intOf i).toNat)
  case atStart => exact ⟨0, Nat.zero_le _, rfl, OwnI.nil _ _, Below.refl _ _⟩
  case round =>
    clear d0 d1
    obtain ⟨k, hk, rfl, hown, hbl⟩ := hrel
    have Hown := Lib.hid hown
    have k0 := k02.below hbl k02.lt
    obtain ⟨d0, d1, _, _⟩ := k0.two
    have hsu := nodesB_succ k fun a => !inB s (a : Int)
    by_cases hlt : k < n
    case pos =>
      have hin := nwIn_any Bs s cs (k : Int) wr (hs.below (endB hbb2 hbl)) hls
      obtain ⟨b, hb⟩ : ∃ b, inB s (k : Int) = b := ⟨_, rfl⟩
      rw [hb] at hin hsu
      have Hin := Lib.hid hin; have Hsu := Lib.hid hsu
      clear hin hsu hb hown
      go_wp2_with fail
      refine Hin.out.mono ?_
      rintro e w3 ⟨rfl, rfl⟩
      cases b
      case true =>
        go_wp2_with fail
        go_roundw
        case rel => exact ⟨k + 1, hlt, by go_num, by have := Hsu.out; simp only [Bool.not_true, Bool.false_eq_true, ↓reduceIte, List.append_nil] at this; rw [this]; exact Hown.out, hbl⟩
        case measure => simp [intOf]; omega
      case false =>
        have hol := nodesB_length k fun a => !inB s (a : Int)
        have hol6 : (nodesB k fun a => !inB s (a : Int)).length ≤ 1000000 := by omega
        have hbs := hbl.size
        go_wp2_with (at_builtin; go_loud (refine wpList_appI (by rfl) _ _ (by rfl) _ W2.heap.size _ _ (k : Int) Hown.out (by rfl) (by rfl) hol6 hbs ?_); intro v' w5 hown5 hb5 hg5; have Hown5 := Lib.hid hown5; have Hb5 := Lib.hid hb5; clear hown5 hb5 hg5)
        go_roundw
        case rel => exact ⟨k + 1, hlt, by go_num, by have := Hsu.out; simp only [Bool.not_false, ↓reduceIte] at this; rw [this]; exact Hown5.out, hbl.trans Hb5.out⟩
        case measure => simp [intOf]; omega
    case neg =>
      obtain rfl : k = n := by omega
      have hown2 : OwnI wr W2.heap.size _ (rstL k s) := Hown.out
      obtain ⟨AR, cR, rfl, hrr, hrn⟩ := hown2.form
      have hbb4 := endB hbb2 hbl
      have k14 := k12.below hbl k12.lt
      obtain ⟨R, hR⟩ : ∃ R, rstL k s = R := ⟨_, rfl⟩
      have hle := Hle.out
      rw [hR] at hrl hle hrr
      rw [hR]
      have HR := Lib.hid hR; have Hle2 := Lib.hid hle
      clear hR hle hown hown2 hsu Hown k12 k02 hbl hbb2
      obtain ⟨W4, hW4⟩ : ∃ W4, W4 = wr := ⟨_, rfl⟩
      subst hW4
      by_cases h10 : 10 < R.length
      case pos =>
        have hd10 : decide ((10 : Int) < (R.length : Int)) = true := decide_eq_true (by omega)
        have hle := Hle2.out
        rw [if_pos h10] at hle
        have Hle := Lib.hid hle
        obtain ⟨Y, hY, hbY, e0, e1, e2⟩ := en_put (.slice none 0 0) (.slice none 0 0) (.slice none 0 0) k14 hbb4
        rw [← hY] at e0 e1 e2
        have HbY := Lib.hid hbY
        rw [← hY] at HbY
        clear hY hbY hle h10
        obtain ⟨y0, y1, y2, _, _⟩ := k14.threeE
        have z0 := k14.frozen 0
        go_wp2_with fail
        refine bodyPost_ret (v := .tuple #[.agg #[.slice none 0 0, .slice none 0 0, .slice none 0 0], .int .i64 2]) (by simp only [results, Tryd.results29]; simp [go_sem, e0, e1, e2]) rfl ?_
        exact ⟨HbY.out, .inl ⟨by rw [Hle.out]; decide, by rw [Hle.out]⟩⟩
      have hd10 : decide ((10 : Int) < (R.length : Int)) = false := decide_eq_false (by omega)
      have hle := Hle2.out
      rw [if_neg h10] at hle
      have Hle3 := Lib.hid hle
      obtain ⟨E, hE⟩ : ∃ E : Nat, E = 2 ^ R.length := ⟨_, rfl⟩
      have hp : 2 ^ R.length ≤ 1024 := Nat.pow_le_pow_right (n := 2) (by omega) (by omega : R.length ≤ 10)
      have e0 : IntKind.u64.wrap (R.length : Int) = (R.length : Int) := by rw [IntKind.wrap_u64]; omega
      have e1 : wrap64 (2 ^ R.length) = (E : Int) := by
        rw [hE, show ((2 : Int) ^ R.length) = ((2 ^ R.length : Nat) : Int) by simp]; unfold wrap64; omega
      rw [← hE] at hp
      have HE := Lib.hid hE
      have hRl : R.length ≤ 10 := by omega
      clear hE hle h10
      have k04 := k0
      go_upto_region 13 with fail
      obtain ⟨W5, hW5, k5, hb5, hs5⟩ := boxE W4
      rw [hW5]
      have hbb5 := endB hbb4 hb5
      have E0 := Lib.hid e0; have E1 := Lib.hid e1
      clear hW5 hs5 e0 e1 k0 d0 d1 hd10
      go_wp2_with fail
      go_loopw [12, 13] (fun f i wr => ∃ q : Nat, q ≤ E ∧ i = .int .i64 (q : Int) ∧ BestR k G kind wr W4.heap.size f (lstK k G s kind q) ∧ Below W4.heap.size W4 wr) (fun _ i _ => E - (intOf i).toNat)
      case atStart => exact ⟨0, Nat.zero_le _, rfl, ⟨none, 0, 0, none, 0, 0, none, 0, 0, k5, rfl⟩, hb5⟩
      case round =>
        obtain ⟨q, hq, rfl, hbm, hbw⟩ := hrel
        have Hbm := Lib.hid hbm
        have hbW := endB hbb4 hbw
        have k0 := k04.below hbw k04.lt
        have k1 := k14.below hbw k14.lt
        have hrro := hrr.below hbw
        obtain ⟨d0, d1, _, _⟩ := k0.two
        clear hbm
        by_cases hlt : q < E
        case pos =>
          have hql : q ≤ 1024 := by omega
          have hqE : q + 1 ≤ E := hlt
          have hstp := lstK_succ k G s kind q
          have hcan : canL k s q = nodesB k (inJ s R q R.length) := by rw [canL_inJ, HR.out]
          have hcs := can_set (n := k) (s := s) q
          have Hstp := Lib.hid hstp; have Hcan := Lib.hid hcan; have Hcs := Lib.hid hcs
          obtain ⟨wo, hwo⟩ : ∃ wo, wo = wr := ⟨_, rfl⟩
          subst hwo
          have e0 := E0.out
          have e1 := E1.out
          clear hstp hcan hcs
          go_wp2_with fail
          clear e0 e1
          go_loopw [14, 15] (fun v i wr => ∃ a : Nat, a ≤ k ∧ i = .int .i64 (a : Int) ∧ OwnI wr wo.heap.size v (nodesB a (inJ s R q R.length)) ∧ Below wo.heap.size wo wr) (fun _ i _ => k - (intOf i).toNat)
          case atStart => exact ⟨0, Nat.zero_le _, rfl, OwnI.nil _ _, Below.refl _ _⟩
          case round =>
            clear d0 d1
            obtain ⟨a, ha, rfl, hown, hbx⟩ := hrel
            have Hown := Lib.hid hown
            have k0x := k0.below hbx k0.lt
            obtain ⟨d0, d1, _, _⟩ := k0x.two
            by_cases hal : a < k
            case pos =>
              have hin := nwIn_any Bs s cs (a : Int) wr (hs.below (endB hbW hbx)) hls
              have hrx := hrro.below hbx
              have hi0 : inJ s R q 0 a = inB s (a : Int) := by simp [inJ]
              obtain ⟨b0, hb0⟩ : ∃ b0, inB s (a : Int) = b0 := ⟨_, rfl⟩
              rw [hb0] at hi0 hin
              have Hin := Lib.hid hin; have Hi0 := Lib.hid hi0
              clear hin hi0 hb0 hown
              go_wp2_with fail
              refine Hin.out.mono ?_
              rintro e w6 ⟨rfl, rfl⟩
              go_wp2_with fail
              obtain ⟨wx, hwx⟩ : ∃ wx, wx = wr := ⟨_, rfl⟩
              subst hwx
              go_loopw [16, 17] (fun v i wr => ∃ j : Nat, j ≤ R.length ∧ v = .bool (inJ s R q j a) ∧ i = .int .i64 (j : Int) ∧ wr = wx) (fun _ i _ => R.length - (intOf i).toNat)
              case atStart => exact ⟨0, Nat.zero_le _, by rw [Hi0.out], rfl, rfl⟩
              case round =>
                obtain ⟨j, hj, rfl, rfl, rfl⟩ := hrel
                by_cases hjl : j < R.length
                case pos =>
                  obtain ⟨b, o, hAR, hcell⟩ := hrx.at_ hjl
                  have hst := inJ_succ s R q j a
                  have hRg : R.getD j 0 = R[j] := by simp [List.getD, hjl]
                  rw [hRg] at hst
                  obtain ⟨x, hx⟩ : ∃ x, R[j] = x := ⟨_, rfl⟩
                  obtain ⟨u, hu⟩ : ∃ u, inJ s R q j a = u := ⟨_, rfl⟩
                  rw [hx, hu] at hst
                  rw [hx] at hcell
                  rw [hu]
                  have Hst := Lib.hid hst
                  subst hAR
                  clear hst hx hu hRg
                  cases u
                  case true =>
                    go_wp2_with fail
                    go_roundw
                    case rel => exact ⟨j + 1, hjl, by rw [Hst.out]; rfl, by go_num, trivial⟩
                    case measure => simp [intOf]; omega
                  case false =>
                    by_cases hxa : x = (a : Int)
                    case neg =>
                      have hd : (x == (a : Int)) = false := by simp [hxa]
                      have hst := Hst.out
                      rw [decide_eq_false hxa] at hst
                      have Hst := Lib.hid hst
                      clear hst hxa
                      go_wp2_with fail
                      go_roundw
                      case rel => exact ⟨j + 1, hjl, by rw [Hst.out]; rfl, by go_num, trivial⟩
                      case measure => simp [intOf]; omega
                    case pos =>
                      have hst := Hst.out
                      rw [decide_eq_true hxa] at hst
                      have Hst := Lib.hid hst
                      have hd : (x == (a : Int)) = true := by simp [hxa]
                      have e2 : IntKind.u64.wrap (j : Int) = (j : Int) := by rw [IntKind.wrap_u64]; omega
                      have hbit := bit_of_shr q j
                      clear hst hxa
                      go_wp2_with fail
                      go_roundw
                      case rel => exact ⟨j + 1, hjl, by rw [Hst.out]; simp, by go_num, trivial⟩
                      case measure => simp [intOf]; omega
                case neg =>
                  obtain rfl : j = R.length := by omega
                  have hsu := nodesB_succ a (inJ s R q R.length)
                  obtain ⟨u, hu⟩ : ∃ u, inJ s R q R.length a = u := ⟨_, rfl⟩
                  rw [hu] at hsu ⊢
                  have Hsu := Lib.hid hsu
                  clear hsu hu
                  cases u
                  case false =>
                    go_wp2_with fail
                    go_roundw
                    case rel => exact ⟨a + 1, hal, by go_num, by have := Hsu.out; simp only [Bool.false_eq_true, ↓reduceIte, List.append_nil] at this; rw [this]; exact Hown.out, hbx⟩
                    case measure => simp [intOf]; omega
                  case true =>
                    have hol := nodesB_length a (inJ s R q R.length)
                    have hol6 : (nodesB a (inJ s R q R.length)).length ≤ 1000000 := by omega
                    have hbs := hbx.size
                    go_wp2_with (at_builtin; go_loud (refine wpList_appI (by rfl) _ _ (by rfl) _ wo.heap.size _ _ (a : Int) Hown.out (by rfl) (by rfl) hol6 hbs ?_); intro v' w5 hown5 hb5 hg5; have Hown5 := Lib.hid hown5; have Hb5 := Lib.hid hb5; clear hown5 hb5 hg5)
                    go_roundw
                    case rel => exact ⟨a + 1, hal, by go_num, by have := Hsu.out; simp only [↓reduceIte] at this; rw [this]; exact Hown5.out, hbx.trans Hb5.out⟩
                    case measure => simp [intOf]; omega
            case neg =>
              obtain rfl : a = k := by omega
              have hown2 := Hown.out
              rw [← Hcan.out] at hown2
              have hcs := Hcs.out; have hstp := Hstp.out
              obtain ⟨t, ht⟩ : ∃ t, canL a s q = t := ⟨_, rfl⟩
              rw [ht] at hown2 hcs hstp
              obtain ⟨At, ct, rfl, hrt, hft⟩ := hown2.form2
              have htl := setB_len hcs
              have hbwx := hbw.trans (hbx.mono hbw.size)
              have hbWx := endB hbb4 hbwx
              have Hbmx := Lib.hid (Hbm.out.below hbx)
              have hS := rStrict_any A (a : Int) G c At t ct kind wr (hr.below hbWx) hl hrt hft (by omega)
              have hse : stErr a G t kind = if hpB a t kind = true then 9 else 0 := by unfold stErr; rw [if_pos (by unfold arE; rw [if_pos Hv.out.valE, if_pos Hk.out, if_pos hcs])]
              have HS := Lib.hid hS; have Hse := Lib.hid hse; have Hst := Lib.hid hstp; have Hcs2 := Lib.hid hcs
              clear hS hse hstp hcs hown2 ht hrt hft hown Hown
              go_wp2_with fail
              refine HS.out.mono ?_
              rintro e w6 ⟨hb6, h6⟩
              have hbw6 := hbwx.trans (hb6.mono hbwx.size)
              have Hbm6 := Lib.hid (Hbmx.out.below hb6)
              rw [Hse.out] at h6
              cases hh : hpB a t kind
              case true =>
                rw [hh, if_pos rfl] at h6
                rcases h6 with ⟨_, rfl⟩ | ⟨h6, _⟩
                rotate_left
                · exact absurd h6 (by decide)
                have hst := Hst.out
                unfold betS at hst
                rw [if_pos hh] at hst
                have Hst2 := Lib.hid hst
                clear hst hh
                go_wp2_with fail
                go_roundw
                case rel => exact ⟨q + 1, hqE, by go_num, by rw [Hst2.out]; exact Hbm6.out.below (newB w6 _), hbw6.trans ((newB w6 _).mono hbw6.size)⟩
                case measure => simp [intOf]; omega
              case false =>
                rw [hh, if_neg (by decide)] at h6
                rcases h6 with ⟨h6, _⟩ | ⟨_, AC, cC, AH, cH, AD, cD, xs, rfl, h1, h2, h3, h4, _⟩
                · exact absurd rfl h6
                rw [Int.toNat_natCast] at h2 h3 h4 ⊢
                have hst := Hst.out
                unfold betS at hst
                rw [if_neg (by rw [hh]; decide)] at hst
                have hCL : (strC a G t kind).length = (dutL a G t kind).length := by unfold strC; rw [List.length_map]
                have hbt : ∀ b, betB a G kind t b = betE (strC a G t kind).length (strC a G b kind).length t b := fun b => by
                  unfold betB betE strC
                  rw [List.length_map, List.length_map]
                obtain ⟨W7, hW7, k7, hb7, hs7⟩ := boxEn w6 (.slice AC t.length cC) (.slice AH (strC a G t kind).length cH) (.slice AD (dutL a G t kind).length cD)
                have hbw7 := hbw6.trans (hb7.mono hbw6.size)
                have g1 : OwnI W7 wr.heap.size (.slice AC t.length cC) t := ownsRow_below h1 hb7
                have g2 : OwnP W7 wr.heap.size (.slice AH (strC a G t kind).length cH) (strC a G t kind) := ownsRow_below h2 hb7
                have g3 : OwnTS W7 wr.heap.size (.slice AD (dutL a G t kind).length cD) xs := ownsRow_below h3 hb7
                have g4 := h4.below hb7
                obtain ⟨BC, m1, dC, BH, m2, dH, BD, m3, dD, kb, hbo⟩ := Hbm6.out.below hb7
                have hall : ∀ X, Below W7.heap.size W7 X → BestR a G kind (((X.setCell ⟨W4.heap.size, 0, none⟩ (.slice AC t.length cC)).setCell ⟨W4.heap.size, 1, none⟩ (.slice AH (strC a G t kind).length cH)).setCell ⟨W4.heap.size, 2, none⟩ (.slice AD (dutL a G t kind).length cD)) W4.heap.size (.bool true) (some t) ∧ Below W4.heap.size W4 (((X.setCell ⟨W4.heap.size, 0, none⟩ (.slice AC t.length cC)).setCell ⟨W4.heap.size, 1, none⟩ (.slice AH (strC a G t kind).length cH)).setCell ⟨W4.heap.size, 2, none⟩ (.slice AD (dutL a G t kind).length cD)) := fun X hX => by
                  have kx := kb.below hX kb.lt
                  have g1 := ownsRow_below g1 hX
                  have g2 := ownsRow_below g2 hX
                  have g3 := ownsRow_below g3 hX
                  have g4 := g4.below hX
                  have hbX := hbw7.trans (hX.mono hbw7.size)
                  have hK8 := ((kx.set_ 0 (.slice AC t.length cC)).set_ 1 (.slice AH (strC a G t kind).length cH)).set_ 2 (.slice AD (dutL a G t kind).length cD)
                  have hG8 : X.grownBy (((X.setCell ⟨W4.heap.size, 0, none⟩ (.slice AC t.length cC)).setCell ⟨W4.heap.size, 1, none⟩ (.slice AH (strC a G t kind).length cH)).setCell ⟨W4.heap.size, 2, none⟩ (.slice AD (dutL a G t kind).length cD)) (some W4.heap.size) :=
                    grownBy_trans (grownBy_trans (grownBy_setCell X W4.heap.size 0 _) (grownBy_setCell _ W4.heap.size 1 _)) (grownBy_setCell _ W4.heap.size 2 _)
                  have hsz : W4.heap.size ≤ wr.heap.size := hbwx.size
                  have p1 := World.ownsRow.kept g1 hG8 (.inr (own_apart g1 kx (by decide)))
                  have p2 := World.ownsRow.kept g2 hG8 (.inr (own_apart g2 kx (by decide)))
                  have p3 := World.ownsRow.kept g3 hG8 (.inr (own_apart g3 kx (by decide)))
                  have p4 := g4.apartB kx (by decide) hG8
                  exact ⟨⟨AC, _, cC, AH, _, cH, AD, _, cD, hK8, rfl, rfl, rfl, rfl, xs, ownsRow_mono p1 hsz, ownsRow_mono p2 hsz, ownsRow_mono p3 hsz, p4.mono hsz, Hcs2.out⟩, ((hbX.setCell (p := ⟨W4.heap.size, 0, none⟩) (Nat.le_refl _) _).setCell (p := ⟨W4.heap.size, 1, none⟩) (Nat.le_refl _) _).setCell (p := ⟨W4.heap.size, 2, none⟩) (Nat.le_refl _) _⟩
                have Hall := Lib.hid hall; have Hst2 := Lib.hid hst; have Hbt := Lib.hid hbt
                have hrt7 := own_riL g1
                have hKo : BestR a G kind W7 W4.heap.size _ (lstK a G s kind q) := ⟨BC, m1, dC, BH, m2, dH, BD, m3, dD, kb, hbo⟩
                have HKo := Lib.hid hKo
                obtain ⟨C1, hC1⟩ : ∃ C1, (strC a G t kind).length = C1 := ⟨_, rfl⟩
                obtain ⟨L1, hL1⟩ : ∃ L1, (dutL a G t kind).length = L1 := ⟨_, rfl⟩
                rw [hC1, hL1] at hW7 k7
                rw [hC1, hL1]
                have hal2 := Hall.out; have hbt2 := Hbt.out
                rw [hC1, hL1] at hal2
                rw [hC1] at hbt2
                have Hal := Lib.hid hal2; have Hbt2 := Lib.hid hbt2
                clear hal2 hbt2 Hall Hbt hall hst hbt g1 g2 g3 g4 h1 h2 h3 h4 hh hCL hC1 hL1 hb6 hb7 hs7 hKo Hbm6 Hbmx hbw6 hbx k0x d0 d1 hb5
                obtain ⟨n0, n1, n2, _, _⟩ := k7.threeE
                obtain ⟨y0, y1, y2, _, _⟩ := kb.threeE
                have z0 := kb.frozen 0
                have z1 := kb.frozen 1
                have z2 := kb.frozen 2
                obtain ⟨o, ho⟩ : ∃ o, lstK a G s kind q = o := ⟨_, rfl⟩
                rw [ho] at hbo
                have hst := Hst2.out
                have hko := HKo.out
                rw [ho] at hst hko
                have Hko := Lib.hid hko
                clear hko HKo Hst2 ho
                cases o with
                | none =>
                  simp only at hbo
                  subst hbo
                  have Hst := Lib.hid hst
                  clear hst
                  go_wp2_with fail
                  go_roundw
                  case rel => exact ⟨q + 1, hqE, by go_num, by rw [Hst.out]; exact (Hal.out _ (Below.refl _ _)).1, (Hal.out _ (Below.refl _ _)).2⟩
                  case measure => simp [intOf]; omega
                | some b =>
                  obtain ⟨rfl, rfl, hm2, hm3, xs', o1, o2, o3, o4, hq4⟩ := hbo
                  have hq1 := own_riL o1
                  simp only at hst
                  rw [Hbt2.out, ← hm2] at hst
                  have hbl := setB_len hq4
                  have hbf := rBefore_any AC t cC AH C1 cH AD L1 cD BC b dC BH m2 dH BD m3 dD W7 hrt7 hq1 (by omega) (by omega)
                  obtain ⟨u, hu⟩ : ∃ u, betE C1 m2 t b = u := ⟨_, rfl⟩
                  rw [hu] at hst hbf
                  have Hbf := Lib.hid hbf; have Hst := Lib.hid hst
                  clear hbf hst hu hm2 hm3 hq1 o1 o2 o3 o4 hq4
                  go_wp2_with fail
                  refine Hbf.out.mono ?_
                  rintro e w8 ⟨rfl, hb8⟩
                  have k78 := k7.below hb8 k7.lt
                  have kb8 := kb.below hb8 kb.lt
                  clear n0 n1 n2 y0 y1 y2 z0 z1 z2
                  obtain ⟨n0, n1, n2, _, _⟩ := k78.threeE
                  obtain ⟨y0, y1, y2, _, _⟩ := kb8.threeE
                  have z0 := kb8.frozen 0
                  have z1 := kb8.frozen 1
                  have z2 := kb8.frozen 2
                  have Hb8 := Lib.hid hb8
                  clear hb8 k78 kb8 hW7
                  cases u with
                  | false =>
                    go_wp2_with fail
                    go_roundw
                    case rel => exact ⟨q + 1, hqE, by go_num, by rw [Hst.out]; exact Hko.out.below Hb8.out, hbw7.trans (Hb8.out.mono hbw7.size)⟩
                    case measure => simp [intOf]; omega
                  | true =>
                    go_wp2_with fail
                    go_roundw
                    case rel => exact ⟨q + 1, hqE, by go_num, by rw [Hst.out]; exact (Hal.out _ Hb8.out).1, (Hal.out _ Hb8.out).2⟩
                    case measure => simp [intOf]; omega
        case neg =>
          obtain rfl : q = E := by omega
          have hbm := Hbm.out
          have hls := loS_some (n := k) (G := G) (s := s) (kind := kind) Hsb.out
          rw [HR.out, ← HE.out] at hls
          rw [hls] at hbm
          obtain ⟨b, hb⟩ : ∃ b, loS k G s kind = b := ⟨_, rfl⟩
          rw [hb] at hbm
          have Hb := Lib.hid hb
          obtain ⟨BC, m1, dC, BH, m2, dH, BD, m3, dD, kb, hbo⟩ := hbm
          simp only at hbo
          obtain ⟨rfl, rfl, rfl, rfl, xs, h1, h2, h3, h4, _⟩ := hbo
          obtain ⟨C, hC⟩ : ∃ C, strC k G b kind = C := ⟨_, rfl⟩
          obtain ⟨L, hL⟩ : ∃ L, dutL k G b kind = L := ⟨_, rfl⟩
          rw [hC] at h2 kb
          rw [hL] at h3 h4 kb
          have HC := Lib.hid hC; have HL := Lib.hid hL
          have hg9 : ∀ a b c, wr.grownBy (((wr.setCell ⟨w.heap.size + 1, 0, none⟩ a).setCell ⟨w.heap.size + 1, 1, none⟩ b).setCell ⟨w.heap.size + 1, 2, none⟩ c) (some (w.heap.size + 1)) := fun a b c => grownBy_trans (grownBy_trans (grownBy_setCell wr _ 0 _) (grownBy_setCell _ _ 1 _)) (grownBy_setCell _ _ 2 _)
          have hgq := hg9 (.slice BC b.length dC) (.slice BH C.length dH) (.slice BD L.length dD)
          obtain ⟨Y, hY, hbY, e0', e1', e2'⟩ := en_put (.slice BC b.length dC) (.slice BH C.length dH) (.slice BD L.length dD) k1 hbW
          rw [hY] at hgq
          have q1 : RI Y BC b := OwnI.ri (c := dC) (World.ownsRow.kept h1 hgq (.inr (own_apart h1 k1 (by decide))))
          have q2 : RP Y BH C := OwnP.rp' (c := dH) (World.ownsRow.kept h2 hgq (.inr (own_apart h2 k1 (by decide))))
          obtain ⟨A9, c9, e9, q3, _⟩ := OwnTS.forms (World.ownsRow.kept h3 hgq (.inr (own_apart h3 k1 (by decide)))) (h4.apartB k1 (by decide) hgq)
          simp only [Value.slice.injEq, true_and] at e9
          obtain ⟨e9a, e9b⟩ := e9
          subst e9a
          subst e9b
          have H9 := Lib.hid (And.intro hbY (And.intro q1 (And.intro q2 q3)))
          rw [← hY] at e0' e1' e2' H9
          have e0 := E0.out
          have e1 := E1.out
          clear hY hbY q1 q2 q3 hgq hg9 h1 h2 h3 h4 hC hL hls hb Hbm hb5
          obtain ⟨y0, y1, y2, _, _⟩ := k1.threeE
          obtain ⟨n0, n1, n2, _, _⟩ := kb.threeE
          have z0 := k1.frozen 0
          go_wp2_with fail
          refine bodyPost_ret (v := .tuple #[.agg #[.slice BC b.length dC, .slice BH C.length dH, .slice BD L.length dD], .int .i64 0]) (by simp only [results, Tryd.results29]; simp [go_sem, e0', e1', e2']) rfl ?_
          refine ⟨H9.out.1, .inr ⟨Hle3.out, BC, dC, BH, dH, BD, dD, ?_⟩⟩
          rw [Int.toNat_natCast, Hb.out, HC.out, HL.out]
          exact ⟨rfl, H9.out.2.1, H9.out.2.2.1, H9.out.2.2.2⟩
end Go.Proofs.YtncimnfhfomddaaDoor

/- net.Graph once more: what it returns fits its capacity. -/
namespace Go.Proofs.YtncimnfhfomddaaDoor
open Go.ChangeShapes Go.WideShapes Go.ChangeAt Go.RowKit

def RetGc (p n : Nat) (w : World) : Ending → World → Prop := fun e w' => ∃ (N : Nat) (l : List (Int × Int)) (A : Option Addr) (c : Nat), e = .returned (.agg #[.int .i64 (N : Int), .slice A l.length c]) ∧ 1 ≤ N ∧ N ≤ n ∧ Vld N l ∧ RP w' A l ∧
  (∀ b o, A = some ⟨b, o, none⟩ → w.heap.size ≤ b) ∧ SrcOk w' p ∧ w.grownBy w' (some p) ∧ (A = none → l = [] ∧ c = 0) ∧ l.length ≤ c
set_option maxRecDepth 100000 in
set_option maxHeartbeats 4000000 in
theorem netGraphC_any (p : Nat) (n : Nat) (w : World) (h : SrcOk w p) (hn0 : 1 ≤ n) (hn : n ≤ 40) :
    Calls Tryd.prog 15 #[.pointer (some ⟨p, 0, none⟩), .int .i64 (n : Int)] w (RetGc p n w) := by
  have hpl := h.lt
  go_enter Tryd.func15, Tryd.ntmps15
  go_wp2_with fail
  obtain ⟨W0, hW, k0, hb0, hlt0⟩ : ∃ W0, w.alloc (.cells #[.int .i64 0, .slice none 0 0] 24) = W0 ∧ Blk W0 w.heap.size 24 #[.int .i64 0, .slice none 0 0] ∧ Below w.heap.size w W0 ∧ w.heap.size < W0.heap.size :=
    ⟨_, rfl, Blk.new _ _ _, (Below.refl _ _).alloc (Nat.le_refl _) _, by simp⟩
  rw [hW]
  have hs0 := h.kept hb0
  clear hW h
  refine (krange_any p 1 (n : Int) W0 hs0 (by omega) (by omega) (by omega)).mono ?_
  rintro e w1 ⟨N, rfl, hN1, hN2, hs1, hg1⟩
  obtain ⟨N, rfl⟩ := Int.eq_ofNat_of_zero_le (by omega : (0 : Int) ≤ N)
  have hsz1 := hg1.size
  have k1 := k0.grown hg1 (fun e => by injection e; omega)
  go_wp2_with fail
  obtain ⟨W1, hW, kg1, hb1, hlt1⟩ : ∃ W1, w1.alloc (.cells #[.int .i64 (N : Int), .slice none 0 0] 24) = W1 ∧ Blk W1 w1.heap.size 24 #[.int .i64 (N : Int), .slice none 0 0] ∧ Below w1.heap.size w1 W1 ∧ W1.heap.size = w1.heap.size + 1 :=
    ⟨_, rfl, Blk.new _ _ _, (Below.refl _ _).alloc (Nat.le_refl _) _, by simp⟩
  rw [hW]
  have hs1' := hs1.kept hb1
  have k1' := k1.below hb1 k1.lt
  have hlt1' : w1.heap.size + 1 ≤ W1.heap.size := by omega
  have Hlt1 := Lib.hid hlt1
  clear hW hlt1
  refine (krange_any p 2 5 W1 hs1' (by decide) (by decide) (by decide)).mono ?_
  rintro e w2 ⟨d, rfl, hd1, hd2, hs2, hg2⟩
  have kg2 := kg1.grown hg2 (fun e => by injection e; omega)
  have k2 := k1'.grown hg2 (fun e => by injection e; omega)
  have hsz2 := hg2.size
  have hN40 : N ≤ 40 := by omega
  have hd7 : d ≤ 5 := by omega
  have hnear : Near p w.heap.size w w2 :=
    (((Near.of_below hb0).trans (Near.of_grown hg1 (by omega))).trans (Near.of_below (hb1.mono (by omega)))).trans (Near.of_grown hg2 (by omega))
  have hst0 : GenSt p w1.heap.size w.heap.size (w1.heap.size + 1) N 0 0 [] w w2 :=
    { src := hs2, near := hnear, res := k2, bef := (fun q hq => by cases hq), srt := List.Pairwise.nil, rng := (fun q hq => by cases hq), len := by simp, hG := by omega, hR := by omega, hRG := by omega, hp := by omega, hpG := by omega, hpR := by omega, hb := by omega, hpW := hpl, hWb := Nat.le_refl _, hWG := by omega }
  have hgg0 : GenG w1.heap.size (w1.heap.size + 1) N [] (.slice none 0 0) w2 := ⟨kg2, OwnP.nil _ _⟩
  clear k0 k1 k1' kg1 kg2 k2 hg1 hg2 hs0 hs1 hs1' hs2 hb0 hb1 hnear
  generalize hGG : w1.heap.size = G at *
  clear hGG
  go_wp2_with fail
  go_loopw [7] (fun i wr => ∃ (f : Nat) (l : List (Int × Int)) (v : Value), f ≤ N ∧ i = .int .i64 f ∧ GenG G (G + 1) N l v wr ∧ GenSt p G w.heap.size (G + 1) N f 0 l w wr) (fun i _ => N - (intOf i).toNat)
  case atStart => exact ⟨0, [], _, by omega, rfl, hgg0, hst0⟩
  case round =>
    obtain ⟨f, l, v, hf, rfl, hgg, hst⟩ := hrel
    obtain ⟨a0, a1, a2, a3⟩ := hgg.blk.two
    clear hgg0 hst0
    by_cases hfN : f < N
    case neg =>
      obtain ⟨r0, r1, r2, r3⟩ := hst.res.two
      obtain ⟨A, c, rfl, hrp, hAn⟩ := hgg.own.form2
      have hcap := (OwnP.fit hgg.own).2
      have Hcap := Lib.hid hcap
      clear hcap
      have hE := hst.ends (by omega) hf
      go_wp2_with fail
      refine bodyPost_ret (v := .agg #[.int .i64 N, .slice A l.length c]) (by simp [results, Tryd.results15, go_sem, (hst.res.set_ 0 _ |>.set_ 1 _).two.1, (hst.res.set_ 0 _ |>.set_ 1 _).two.2.1]) rfl ?_
      obtain ⟨h1, h2, h3⟩ := hE (.int .i64 N) (.slice A l.length c)
      have hloc : ∀ b o, A = some ⟨b, o, none⟩ → w.heap.size ≤ b ∧ b ≠ w.heap.size := fun b o hA => by
        subst hA
        have := (hgg.own.lt b rfl).1; have := hst.hWG; have := hst.hRG; omega
      exact ⟨N, l, A, c, rfl, by omega, by omega, h1, hrp.far2 (fun b o hA _ => (hloc b o hA).2) _ _, fun b o hA => (hloc b o hA).1, h2, h3, hAn, Hcap.out⟩
    case pos =>
    have hfN' : (f : Int) < (N : Int) := by omega
    obtain ⟨wo, hwo⟩ : ∃ wo, wo = wr := ⟨_, rfl⟩
    subst hwo
    go_wp2_with fail
    clear a0 a1 a2 a3
    go_loopw [8] (fun i wr => ∃ (t : Nat) (l : List (Int × Int)) (v : Value), t ≤ N ∧ i = .int .i64 t ∧ GenG G (G + 1) N l v wr ∧ GenSt p G w.heap.size (G + 1) N f t l w wr) (fun i _ => N - (intOf i).toNat)
    case atStart => exact ⟨0, l, v, by omega, rfl, hgg, hst⟩
    case round =>
      clear hgg hst
      obtain ⟨t, l, v, ht, rfl, hgg, hst⟩ := hrel
      obtain ⟨a0, a1, a2, a3⟩ := hgg.blk.two
      by_cases htN : t < N
      case neg =>
        obtain rfl : t = N := by omega
        go_wp2
        go_roundw
        case rel => exact ⟨f + 1, l, v, by omega, by go_num, hgg, hst.row hN40⟩
        case measure => simp [intOf]; omega
      case pos =>
      have htN' : (t : Int) < (N : Int) := by omega
      have hsrc := hst.src
      by_cases hft : f = t
      · obtain rfl : t = f := hft.symm
        go_wp2_with fail
        refine (n_any p 9 wr hsrc (by omega) (by omega)).mono ?_
        rintro e w3 ⟨k, rfl, hk1, hk2, hs3, hg3⟩
        have hgg3 : GenG G (G + 1) N l v w3 := ⟨hgg.blk.grown hg3 (fun e => by injection e with e; exact hst.hpG e.symm), ownsRow_far hgg.own hg3 hst.hp⟩
        have hst3 := hst.read hs3 hg3
        clear hgg hst a0 a1 a2 a3 hg3 hs3 hsrc
        obtain ⟨a0, a1, a2, a3⟩ := hgg3.blk.two
        have hlen3 : l.length ≤ 1000000 := by have := hst3.len; omega
        have hbs := hst3.hb
        by_cases hk1 : k = 1
        · have hkb : (k == 1) = true := by simp [hk1]
          have Hk0 := Lib.hid hk1; clear hk1
          go_wp2_with (at_builtin; (refine wpList_appP (by rfl) _ _ (by rfl) w3 (G + 1) _ l (t : Int) (t : Int) hgg3.own (by rfl) (by rfl) hlen3 hbs ?_; intro v' w4 hown4 hb4 hg4; (obtain ⟨A', c', rfl, _, _⟩ := OwnP.form hown4); rw [List.length_append] at hown4; simp only [List.length_singleton] at hown4; have kg4 := hgg3.blk.append hgg3.own hg4 (Nat.lt_succ_self G); (obtain ⟨b0, b1, b2, b3⟩ := kg4.two)))
          go_roundw
          case rel => exact ⟨t + 1, l ++ [((t : Int), (t : Int))], .slice A' _ c', by omega, by go_num, ⟨kg4.set_ 1 _, ownsRow_setCell_below hown4 (a := ⟨G, 1, none⟩) (Nat.lt_succ_self G) _⟩, hst3.add hgg3.own hg4 hb4 htN htN _⟩
          case measure => simp [intOf]; omega
        · have hkb : (k == 1) = false := by simp [hk1]
          have Hk0 := Lib.hid hk1; clear hk1
          go_wp2_with fail
          go_roundw
          case rel => exact ⟨t + 1, l, v, by omega, by go_num, hgg3, hst3.next⟩
          case measure => simp [intOf]; omega
      · have hne : ((f : Int) == (t : Int)) = false := by rw [beq_eq_false_iff_ne]; omega
        have Hft := Lib.hid hft; clear hft
        go_wp2_with fail
        refine (n_any p d wr hsrc (by omega) (by omega)).mono ?_
        rintro e w3 ⟨k, rfl, hk1, hk2, hs3, hg3⟩
        have hgg3 : GenG G (G + 1) N l v w3 := ⟨hgg.blk.grown hg3 (fun e => by injection e with e; exact hst.hpG e.symm), ownsRow_far hgg.own hg3 hst.hp⟩
        have hst3 := hst.read hs3 hg3
        clear hgg hst a0 a1 a2 a3 hg3 hs3 hsrc
        obtain ⟨a0, a1, a2, a3⟩ := hgg3.blk.two
        have hlen3 : l.length ≤ 1000000 := by have := hst3.len; omega
        have hbs := hst3.hb
        by_cases hk1 : k = 1
        · have hkb : (k == 1) = true := by simp [hk1]
          have Hk0 := Lib.hid hk1; clear hk1
          go_wp2_with (at_builtin; (refine wpList_appP (by rfl) _ _ (by rfl) w3 (G + 1) _ l (f : Int) (t : Int) hgg3.own (by rfl) (by rfl) hlen3 hbs ?_; intro v' w4 hown4 hb4 hg4; (obtain ⟨A', c', rfl, _, _⟩ := OwnP.form hown4); rw [List.length_append] at hown4; simp only [List.length_singleton] at hown4; have kg4 := hgg3.blk.append hgg3.own hg4 (Nat.lt_succ_self G); (obtain ⟨b0, b1, b2, b3⟩ := kg4.two)))
          go_roundw
          case rel => exact ⟨t + 1, l ++ [((f : Int), (t : Int))], .slice A' _ c', by omega, by go_num, ⟨kg4.set_ 1 _, ownsRow_setCell_below hown4 (a := ⟨G, 1, none⟩) (Nat.lt_succ_self G) _⟩, hst3.add hgg3.own hg4 hb4 hfN htN _⟩
          case measure => simp [intOf]; omega
        · have hkb : (k == 1) = false := by simp [hk1]
          have Hk0 := Lib.hid hk1; clear hk1
          go_wp2_with fail
          go_roundw
          case rel => exact ⟨t + 1, l, v, by omega, by go_num, hgg3, hst3.next⟩
          case measure => simp [intOf]; omega
end Go.Proofs.YtncimnfhfomddaaDoor

/- The plain law of EnforceWorks: Check accepts what Strict and Loose return. -/
namespace Go.Proofs.YtncimnfhfomddaaDoor
open Go.ChangeShapes Go.WideShapes Go.ChangeAt Go.RowKit

section
variable {n : Nat} {G : List (Int × Int)} {s : List Int} {kind : Int}
theorem covB_self (l : List (Int × Int)) : covB l l = true := by
  unfold covB
  rw [Bool.not_eq_true', List.any_eq_false]
  intro p hp
  rw [hasB_iff.2 hp]; simp
theorem prB_strict (hv : Vld n G) (hs : setB n s = true) (hk : kind = 1 ∨ kind = 2) : prB n G s kind (strC n G s kind) (dutL n G s kind) = true := by
  have hn : (dutL n G s kind).flatten.Nodup := by
    rw [← dutR_eq hv.1 hs hk]
    exact dut_flat (vld_nodup hv) (setB_nodup hs)
  have hl : (dutL n G s kind).length = (strC n G s kind).length := by unfold strC; rw [List.length_map]
  unfold prB
  rw [decide_eq_true hl, decide_eq_true hn, Bool.true_and, Bool.true_and, List.all_eq_true]
  intro d hd
  exact List.any_eq_true.2 ⟨d, hd, covB_self d⟩
theorem tgE_strC (hv : Vld n G) (hs : setB n s = true) (hh : hpB n s kind = false) (hk : kind = 1 ∨ kind = 2) : tgE n (strC n G s kind) = 0 := tgE_ok (strC_ok hv.1 hs hh hk) (strC_nodup hv hs hh hk)
theorem strC_len (hv : Vld n G) : (strC n G s kind).length ≤ G.length + 40 := by
  unfold strC dutL
  rw [List.length_map, List.length_append]
  have h1 := dutA_len (maskN s) G
  have h3 := dutB_len n G s kind n
  have h2 := hv.1.1
  unfold dutB at h3
  omega
theorem tgErr_strC (hv : Vld n G) (hs : setB n s = true) (hh : hpB n s kind = false) (hk : kind = 1 ∨ kind = 2) : tgErr n G (strC n G s kind) = 0 := by
  unfold tgErr; rw [if_pos hv.valE]; exact tgE_strC hv hs hh hk
theorem strC_vld (hv : Vld n G) (hs : setB n s = true) (hh : hpB n s kind = false) (hk : kind = 1 ∨ kind = 2) : Vld n (tgL G (strC n G s kind)) := by
  have h1 := (strC_len (s := s) (kind := kind) hv)
  have h2 := len_of_vld hv
  exact tgL_vld hv (tgE_strC hv hs hh hk) (by omega)
theorem accR_strC (hv : Vld n G) (hs : setB n s = true) (hh : hpB n s kind = false) (hk : kind = 1 ∨ kind = 2) : accR n (tgL G (strC n G s kind)) s kind = true :=
  (accR_iff (strC_vld hv hs hh hk).1 hk).2 (strC_acc hv hs hh hk)
theorem arE_good (hv : Vld n G) (hs : setB n s = true) (hk : kind = 1 ∨ kind = 2) : arE n G s kind = 0 := by
  unfold arE; rw [if_pos hv.valE, if_pos hk, if_pos hs]
theorem chkE_strict (hv : Vld n G) (hs : setB n s = true) (hh : hpB n s kind = false) (hk : kind = 1 ∨ kind = 2) : chkE n G kind s (strC n G s kind) (dutL n G s kind) = 0 := by
  unfold chkE
  rw [if_pos (arE_good hv hs hk), if_pos (tgErr_strC hv hs hh hk), Int.toNat_natCast, ← accR_eq (strC_vld hv hs hh hk).1 hs hk, if_pos (accR_strC hv hs hh hk), if_pos (prB_strict hv hs hk)]
theorem accR_none (hv : Vld n G) (hs : setB n s = true) (hh : hpB n s kind = false) (hk : kind = 1 ∨ kind = 2) : accR n G s kind = decide (strC n G s kind = []) := by
  rw [Bool.eq_iff_iff, accR_iff hv.1 hk, decide_eq_true_iff]
  exact (strC_none hv hs hh hk).symm
theorem stErr_good (hv : Vld n G) (hs : setB n s = true) (hk : kind = 1 ∨ kind = 2) : stErr n G s kind = if hpB n s kind = true then 9 else 0 := by
  unfold stErr; rw [if_pos (arE_good hv hs hk)]
theorem loErr_good (hv : Vld n G) (hs : setB n s = true) (hk : kind = 1 ∨ kind = 2) (hn : n ≤ 10) : loErr n G s kind = 0 := by
  unfold loErr
  have h := rst_len (n := n) (s := s)
  rw [if_pos (arE_good hv hs hk), Int.toNat_natCast, if_neg (by omega)]
theorem loS_ok (hs : setB n s = true) : setB n (loS n G s kind) = true ∧ (∀ x ∈ s, x ∈ loS n G s kind) ∧ hpB n (loS n G s kind) kind = false ∧ ∀ t, setB n t = true → (∀ x ∈ s, x ∈ t) → hpB n t kind = true ∨ (dutL n G (loS n G s kind) kind).length ≤ (dutL n G t kind).length := by
  obtain ⟨b, h, h1, h2, h3, h4⟩ := lst_some (n := n) (G := G) (s := s) (kind := kind) hs
  have h5 := loS_some (n := n) (G := G) (s := s) (kind := kind) hs
  rw [h5] at h
  injection h with h
  rw [h]
  exact ⟨h1, h2, h3, h4⟩
theorem strC_le (hs : setB n s = true) (hh : hpB n s kind = false) : (strC n G (loS n G s kind) kind).length ≤ (strC n G s kind).length := by
  unfold strC
  rw [List.length_map, List.length_map]
  exact ((loS_ok hs).2.2.2 s hs (fun x h => h)).resolve_left (by rw [hh]; decide)
theorem inside_sub {a b : List Int} (h : ∀ x ∈ a, x ∈ b) : insideB a b = true := by
  unfold insideB
  rw [List.all_eq_true]
  intro x hx
  exact (inB_iff _ _).2 (h x hx)
theorem dut_mem_i64 (hv : Vld n G) (hs : setB n s = true) (hh : hpB n s kind = false) (hk : kind = 1 ∨ kind = 2) : ∀ l ∈ dutL n G s kind, ∀ p ∈ l, I64 p := fun l hl p hp => okP_i64 (Nat.le_trans hv.1.1 (by decide)) ((dut_ok hv hs hh hk l hl).2.2 p hp)
theorem flat_len {α : Type} {L : List (List α)} {m : Nat} (h : ∀ l ∈ L, l.length ≤ m) : L.flatten.length ≤ L.length * m := by
  induction L with
  | nil => simp
  | cons a L ih =>
    rw [List.flatten_cons, List.length_append, List.length_cons, Nat.succ_mul]
    have h1 := h a (by simp)
    have h2 := ih (fun l hl => h l (List.mem_cons_of_mem _ hl))
    omega
theorem dut_each (hv : Vld n G) (hs : setB n s = true) (hk : kind = 1 ∨ kind = 2) : ∀ d ∈ dutL n G s kind, d.length ≤ 80 := fun d hd => by
  rw [← dutR_eq hv.1 hs hk] at hd
  have h5 := setB_len hs
  have h4 := hv.1.1
  rcases mem_dutR.1 hd with ⟨p, _, _, _, rfl⟩ | ⟨a, _, _, _, _, rfl⟩
  · simp
  · have := dyR_len G kind a s; omega
theorem dut_flat_len (hv : Vld n G) (hs : setB n s = true) (hk : kind = 1 ∨ kind = 2) (hl : G.length ≤ 1000) : (dutL n G s kind).flatten.length ≤ 100000 := by
  have h1 := flat_len (dut_each hv hs hk)
  have h2 := (strC_len (s := s) (kind := kind) hv)
  unfold strC at h2
  rw [List.length_map] at h2
  have h3 : (dutL n G s kind).length * 80 ≤ 1040 * 80 := Nat.mul_le_mul_right _ (by omega)
  omega
end
end Go.Proofs.YtncimnfhfomddaaDoor

/- law21: the answers of Toggle, Strict and Loose of both sides, in one shape. -/
namespace Go.Proofs.YtncimnfhfomddaaDoor
open Go.ChangeShapes Go.WideShapes Go.ChangeAt Go.RowKit

/-- an enforcement and an error -/
def RetXe (er : Int) (s : List Int) (C : List (Int × Int)) (O : List (List (Int × Int))) (w : World) : Ending → World → Prop := fun e w' => Below w.heap.size w w' ∧
  ∃ AC cC AH cH AD cD, e = .returned (.tuple #[.agg #[.slice AC s.length cC, .slice AH C.length cH, .slice AD O.length cD], .int .i64 er]) ∧ RI w' AC s ∧ RP w' AH C ∧ RTo w' AD O
/-- a graph and an error -/
def RetYe (er M : Int) (L : List (Int × Int)) (w : World) : Ending → World → Prop := fun e w' => Below w.heap.size w w' ∧
  ∃ A c, e = .returned (.tuple #[.agg #[.int .i64 M, .slice A L.length c], .int .i64 er]) ∧ RP w' A L
theorem retXe_bad {er : Int} {w w' : World} {e : Ending} (hb : Below w.heap.size w w') (he : e = .returned (.tuple #[.agg #[.slice none 0 0, .slice none 0 0, .slice none 0 0], .int .i64 er])) : RetXe er [] [] [] w e w' :=
  ⟨hb, none, 0, none, 0, none, 0, he, fun k hk => absurd hk (by simp), fun k hk => absurd hk (by simp), RTo.nil _ _⟩
def Few (s : List Int) (C : List (Int × Int)) (O : List (List (Int × Int))) : Prop := s.length ≤ 100000 ∧ C.length ≤ 100000 ∧ O.length ≤ 100000 ∧ ∀ d ∈ O, d.length ≤ 100000
theorem few_nil : Few [] [] [] := ⟨by simp, by simp, by simp, by simp⟩
theorem few_ok {n : Nat} {G : List (Int × Int)} {s : List Int} {kind : Int} (hv : Vld n G) (hs : setB n s = true) (hk : kind = 1 ∨ kind = 2) (hG : G.length ≤ 300) : Few s (strC n G s kind) (dutL n G s kind) := by
  have h1 := setB_len hs
  have h2 := hv.1.1
  have h3 := strC_len (s := s) (kind := kind) hv
  have h4 : (strC n G s kind).length = (dutL n G s kind).length := by unfold strC; rw [List.length_map]
  exact ⟨by omega, by omega, by omega, fun d hd => Nat.le_trans (dut_each hv hs hk d hd) (by decide)⟩
theorem st_two (A1 : Option Addr) (N1 : Int) (l1 : List (Int × Int)) (c1 : Nat) (B : Option Addr) (t : List Int) (ct : Nat) (kind : Int) (h1 : l1.length ≤ 300) (htn : B = none → t = [] ∧ ct = 0) (ht : t.length ≤ 60) :
    ∃ er s C O, Few s C O ∧ (∀ X, RP X A1 l1 → RI X B t → Tab X → Calls Tryd.prog 27 #[.agg #[.int .i64 N1, .slice A1 l1.length c1], .slice B t.length ct, .int .i64 kind] X (RetXe er s C O X)) ∧
      (∀ X, RP X A1 l1 → RI X B t → Calls Tryd.prog 17 #[.agg #[.int .i64 N1, .slice A1 l1.length c1], .slice B t.length ct, .int .i64 kind] X (RetXe er s C O X)) := by
  by_cases h0 : stErr N1 l1 t kind = 0
  case pos =>
    have ha : arE N1 l1 t kind = 0 := by
      unfold stErr at h0
      split at h0
      · assumption
      · rename_i hx; exact absurd h0 hx
    obtain ⟨hv0, hk, hsb⟩ := arE_ok ha
    obtain ⟨n, rfl, hv⟩ := vld_of_valE hv0 (by omega)
    refine ⟨0, t, _, _, few_ok hv hsb hk h1, fun X hr hs hT => (enStrict_any A1 n l1 c1 B t ct kind X hr (by omega) hs htn (by omega) hT).mono ?_, fun X hr hs => (rStrict_any A1 n l1 c1 B t ct kind X hr (by omega) hs htn (by omega)).mono ?_⟩
    · rintro e w' ⟨hb, h | ⟨-, AC, cC, AH, cH, AD, cD, rfl, h1, h2, h3⟩⟩
      · exact absurd h0 h.1
      · rw [Int.toNat_natCast] at h2 h3
        exact ⟨hb, AC, cC, AH, cH, AD, cD, by rw [Int.toNat_natCast], h1, h2, h3⟩
    · rintro e w' ⟨hb, h | ⟨-, AC, cC, AH, cH, AD, cD, xs, rfl, h1, h2, h3, h4, -⟩⟩
      · exact absurd h0 h.1
      · rw [Int.toNat_natCast] at h2 h3 h4
        obtain ⟨AD', cD', e, h5, -⟩ := h3.forms h4
        injection e with e1 e2 e3
        subst e1; subst e3
        exact ⟨hb, AC, cC, AH, cH, AD, cD, by rw [Int.toNat_natCast], h1.ri, h2.rp', h5⟩
  case neg =>
    refine ⟨stErr N1 l1 t kind, [], [], [], few_nil, fun X hr hs hT => (enStrict_any A1 N1 l1 c1 B t ct kind X hr (by omega) hs htn (by omega) hT).mono ?_, fun X hr hs => (rStrict_any A1 N1 l1 c1 B t ct kind X hr (by omega) hs htn (by omega)).mono ?_⟩
    · rintro e w' ⟨hb, h | ⟨h, -⟩⟩
      · exact retXe_bad hb h.2
      · exact absurd h h0
    · rintro e w' ⟨hb, h | ⟨h, -⟩⟩
      · exact retXe_bad hb h.2
      · exact absurd h h0
theorem lo_two (A1 : Option Addr) (N1 : Int) (l1 : List (Int × Int)) (c1 : Nat) (B : Option Addr) (t : List Int) (ct : Nat) (kind : Int) (h1 : l1.length ≤ 300) (ht : t.length ≤ 60) :
    ∃ er s C O, Few s C O ∧ (∀ X, RP X A1 l1 → RI X B t → Tab X → Calls Tryd.prog 28 #[.agg #[.int .i64 N1, .slice A1 l1.length c1], .slice B t.length ct, .int .i64 kind] X (RetXe er s C O X)) ∧
      (∀ X, RP X A1 l1 → RI X B t → Calls Tryd.prog 29 #[.agg #[.int .i64 N1, .slice A1 l1.length c1], .slice B t.length ct, .int .i64 kind] X (RetXe er s C O X)) := by
  by_cases h0 : loErr N1 l1 t kind = 0
  case pos =>
    have ha : arE N1 l1 t kind = 0 := by
      unfold loErr at h0
      split at h0
      · assumption
      · rename_i hx; exact absurd h0 hx
    obtain ⟨hv0, hk, hsb⟩ := arE_ok ha
    obtain ⟨n, rfl, hv⟩ := vld_of_valE hv0 (by omega)
    have hgo : ∀ {X : World} {e : Ending} {w' : World}, RetEo (n : Int) l1 t kind X e w' → RetXe 0 (loS n l1 t kind) (strC n l1 (loS n l1 t kind) kind) (dutL n l1 (loS n l1 t kind) kind) X e w' := by
      rintro X e w' ⟨hb, h | ⟨-, AC, cC, AH, cH, AD, cD, rfl, h1, h2, h3⟩⟩
      · exact absurd h0 h.1
      · rw [Int.toNat_natCast] at h1 h2 h3
        exact ⟨hb, AC, cC, AH, cH, AD, cD, by rw [Int.toNat_natCast], h1, h2, h3⟩
    exact ⟨0, _, _, _, few_ok hv (loS_ok hsb).1 hk h1, fun X hr hs hT => (enLoose_any A1 n l1 c1 B t ct kind X hr (by omega) hs (by omega) hT).mono fun e w' h => hgo h, fun X hr hs => (rLoose_any A1 n l1 c1 B t ct kind X hr (by omega) hs (by omega)).mono fun e w' h => hgo h⟩
  case neg =>
    have hgo : ∀ {X : World} {e : Ending} {w' : World}, RetEo N1 l1 t kind X e w' → RetXe (loErr N1 l1 t kind) [] [] [] X e w' := by
      rintro X e w' ⟨hb, h | ⟨h, -⟩⟩
      · exact retXe_bad hb h.2
      · exact absurd h h0
    exact ⟨loErr N1 l1 t kind, [], [], [], few_nil, fun X hr hs hT => (enLoose_any A1 N1 l1 c1 B t ct kind X hr (by omega) hs (by omega) hT).mono fun e w' h => hgo h, fun X hr hs => (rLoose_any A1 N1 l1 c1 B t ct kind X hr (by omega) hs (by omega)).mono fun e w' h => hgo h⟩
theorem tg_two (A1 : Option Addr) (N1 : Int) (l1 : List (Int × Int)) (c1 : Nat) (A2 : Option Addr) (l2 : List (Int × Int)) (c2 : Nat) (h1 : l1.length ≤ 300) (h2 : l2.length ≤ 60) (hA : A1 = none → l1 = [] ∧ c1 = 0) (hc1 : l1.length ≤ c1) (hc2 : l2.length ≤ c2) :
    ∃ er M L, L.length ≤ 100000 ∧ (∀ X, RP X A1 l1 → RP X A2 l2 → Calls Tryd.prog 24 #[.agg #[.int .i64 N1, .slice A1 l1.length c1], .slice A2 l2.length c2] X (RetYe er M L X)) ∧
      (∀ X, RP X A1 l1 → RP X A2 l2 → Calls Tryd.prog 26 #[.agg #[.int .i64 N1, .slice A1 l1.length c1], .slice A2 l2.length c2] X (RetYe er M L X)) := by
  refine ⟨tgErr N1 l1 l2, tgN N1 l1 l2, tgG N1 l1 l2, ?_, fun X hr hr2 => (toggle_any A1 A2 N1 l1 l2 c1 c2 X hr hr2 (by omega)).mono ?_, fun X hr hr2 => (rToggle_any A1 A2 N1 l1 l2 c1 c2 X hr hr2 (by omega) hA hc1 hc2).mono ?_⟩
  · unfold tgG
    split
    · have := tgL_len l1 l2; omega
    · simp
  · rintro e w' ⟨A, c, rfl, h3, -, hb⟩
    exact ⟨hb, A, c, rfl, h3⟩
  · rintro e w' ⟨A, c, rfl, h3, -, -, hb⟩
    exact ⟨hb, A, c, rfl, h3⟩
end Go.Proofs.YtncimnfhfomddaaDoor
