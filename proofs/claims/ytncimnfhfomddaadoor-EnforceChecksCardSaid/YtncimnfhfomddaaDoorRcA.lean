import Derived.Test.YtncimnfhfomddaaDoorRdW
import Derived.Test.YtncimnfhfomddaaDoorStkW
import Derived.Test.YtncimnfhfomddaaDoorNpW
import Derived.Test.YtncimnfhfomddaaDoorRtW
import Derived.Test.YtncimnfhfomddaaDoorPaW
import Derived.Test.YtncimnfhfomddaaDoorLov
/- ref21.Duties. -/
namespace Go.Proofs.YtncimnfhfomddaaDoor
open Go.ChangeShapes Go.WideShapes Go.ChangeAt Go.RowKit

theorem dutAR_step {s : List Int} {G : List (Int × Int)} {k : Nat} (hk : k < G.length) : dutAR (G.take (k + 1)) s = if inB s G[k].1 && inB s G[k].2 then dutAR (G.take k) s ++ [[G[k]]] else dutAR (G.take k) s := by
  unfold dutAR
  rw [List.take_succ_eq_append_getElem hk, List.filter_append, List.map_append]
  cases h : (inB s G[k].1 && inB s G[k].2) <;> simp [h]
theorem dutAR_len (G : List (Int × Int)) (s : List Int) : (dutAR G s).length ≤ G.length := by unfold dutAR; rw [List.length_map]; exact List.length_filter_le ..
def dutBR (G : List (Int × Int)) (s : List Int) (kind : Int) (k : Nat) : List (List (Int × Int)) := ((List.range k).filter fun a => oweR G s kind (a : Nat)).map fun a => dyR G kind (a : Nat) s
theorem dutBR_step {G : List (Int × Int)} {s : List Int} {kind : Int} {k : Nat} : dutBR G s kind (k + 1) = if oweR G s kind (k : Nat) then dutBR G s kind k ++ [dyR G kind (k : Nat) s] else dutBR G s kind k := by
  unfold dutBR
  rw [List.range_succ, List.filter_append, List.map_append]
  cases h : oweR G s kind (k : Nat) <;> simp [h]
theorem dutBR_len (G : List (Int × Int)) (s : List Int) (kind : Int) (k : Nat) : (dutBR G s kind k).length ≤ k := by unfold dutBR; rw [List.length_map]; exact Nat.le_trans (List.length_filter_le ..) (by simp)
theorem hosR_snoc (G : List (Int × Int)) (kind a : Int) (s : List Int) (x : Int) : hosR G kind a (s ++ [x]) = (hosR G kind a s || (decide (kind = 1) && hasB G a x)) := by
  unfold hosR
  rw [List.any_append]
  simp [Bool.or_assoc]
/-- slices that fit their capacities -/
def FitX (xs : List Value) : Prop := ∀ v ∈ xs, ∃ A n c, v = Value.slice A n c ∧ (A = none → n = 0 ∧ c = 0) ∧ n ≤ c
theorem FitX.nil : FitX [] := fun v h => by cases h
theorem FitX.snoc {xs : List Value} {A : Option Addr} {n c : Nat} (h : FitX xs) (h1 : A = none → n = 0 ∧ c = 0) (h2 : n ≤ c) : FitX (xs ++ [.slice A n c]) := fun v hv => by
  rcases List.mem_append.1 hv with hv | hv
  · exact h v hv
  · rw [List.mem_singleton] at hv
    exact ⟨A, n, c, hv, h1, h2⟩
/-- the call returns lists of pairs, which fit -/
def RetTF (L : List (List (Int × Int))) (w : World) : Ending → World → Prop := fun e w' => ∃ A c xs, e = .returned (.slice A L.length c) ∧ OwnTS w' w.heap.size (.slice A L.length c) xs ∧ OwnTL w' w.heap.size xs L ∧ FitX xs ∧ RTo w' A L ∧ Below w.heap.size w w'
set_option maxRecDepth 100000 in
set_option maxHeartbeats 8000000 in
theorem rDuties_any (A : Option Addr) (n : Nat) (G : List (Int × Int)) (c : Nat) (Bs : Option Addr) (s : List Int) (cs : Nat) (kind : Int) (w : World) (hr : RP w A G) (hl : G.length ≤ 100000) (hs : RI w Bs s) (hls : s.length ≤ 1000) (hn : n ≤ 1000) :
    Calls Tryd.prog 47 #[.agg #[.int .i64 (n : Int), .slice A G.length c], .slice Bs s.length cs, .int .i64 kind] w (RetTF (dutR n G s kind) w) := by
  have e1 : (kind == 1) = decide (kind = 1) := by by_cases h : kind = 1 <;> simp [h]
  have e2 : (kind == 2) = decide (kind = 2) := by by_cases h : kind = 2 <;> simp [h]
  obtain ⟨q1, hq1⟩ : ∃ b, decide (kind = 1) = b := ⟨_, rfl⟩
  obtain ⟨q2, hq2⟩ : ∃ b, decide (kind = 2) = b := ⟨_, rfl⟩
  rw [hq1] at e1
  rw [hq2] at e2
  have Hq1 := Lib.hid hq1; have Hq2 := Lib.hid hq2
  clear hq1 hq2
  go_enter Tryd.func47, Tryd.ntmps47
  go_upto_region 1 with fail
  obtain ⟨W0, hW, k0, hb0, hs0⟩ := boxG w (n : Int) A G.length c
  rw [hW]
  clear hW hs0
  go_wp2_with fail
  go_loopw [7, 8] (fun v i wr => ∃ (k : Nat) (xs : List Value), k ≤ G.length ∧ i = .int .i64 (k : Int) ∧ OwnTS wr W0.heap.size v xs ∧ OwnTL wr W0.heap.size xs (dutAR (G.take k) s) ∧ FitX xs ∧ Below W0.heap.size W0 wr) (fun _ i _ => G.length - (intOf i).toNat)
  case atStart => exact ⟨0, [], Nat.zero_le _, rfl, OwnTS.nil _ _, OwnTL.nil _ _, FitX.nil, Below.refl _ _⟩
  case round =>
    obtain ⟨k, xs, hk, rfl, hown, htl, hfx, hbw⟩ := hrel
    have Hfx := Lib.hid hfx
    clear hfx
    have Hown := Lib.hid hown; have Htl := Lib.hid htl
    have hlen : xs.length = (dutAR (G.take k) s).length := htl.1
    have hxl : xs.length ≤ 100000 := by have := dutAR_len (G.take k) s; rw [List.length_take] at this; omega
    have k1 := k0.below hbw k0.lt
    obtain ⟨c0, c1, _, _⟩ := k1.two
    have hbX := endB hb0 hbw
    clear hown htl hlen
    by_cases hlt : k < G.length
    case pos =>
      have hst := dutAR_step (s := s) hlt
      obtain ⟨b, o, rfl, d0, d1⟩ := (hr.below hbX).at_ hlt
      obtain ⟨p, hp⟩ : ∃ p, G[k] = p := ⟨_, rfl⟩
      rw [hp] at d0 d1 hst
      obtain ⟨x, y⟩ := p
      have h1 := nwIn_any Bs s cs x wr (hs.below hbX) (by omega)
      have h2 := nwIn_any Bs s cs y wr (hs.below hbX) (by omega)
      obtain ⟨b1, hb1⟩ : ∃ b1, inB s x = b1 := ⟨_, rfl⟩
      obtain ⟨b2, hb2⟩ : ∃ b2, inB s y = b2 := ⟨_, rfl⟩
      simp only [hb1, hb2] at hst
      rw [hb1] at h1
      rw [hb2] at h2
      have Hst := Lib.hid hst; have H1 := Lib.hid h1; have H2 := Lib.hid h2
      clear hst h1 h2 hp hb1 hb2
      go_wp2_with fail
      refine H1.out.mono ?_
      rintro e w1 ⟨rfl, rfl⟩
      cases b1
      case false =>
        have hst := Hst.out
        rw [Bool.false_and, if_neg (by decide)] at hst
        have Hst := Lib.hid hst
        clear hst
        go_wp2_with fail
        go_roundw
        case rel => exact ⟨k + 1, xs, hlt, by go_num, Hown.out, by rw [Hst.out]; exact Htl.out, Hfx.out, hbw⟩
        case measure => simp [intOf]; omega
      case true =>
        go_wp2_with fail
        refine H2.out.mono ?_
        rintro e w2 ⟨rfl, hww⟩
        subst hww
        cases b2
        case false =>
          have hst := Hst.out
          rw [Bool.and_false, if_neg (by decide)] at hst
          have Hst := Lib.hid hst
          clear hst
          go_wp2_with fail
          go_roundw
          case rel => exact ⟨k + 1, xs, hlt, by go_num, Hown.out, by rw [Hst.out]; exact Htl.out, Hfx.out, hbw⟩
          case measure => simp [intOf]; omega
        case true =>
          have hst := Hst.out
          rw [Bool.and_self, if_pos rfl] at hst
          have Hst := Lib.hid hst
          clear hst
          obtain ⟨W1, hWW⟩ : ∃ W1, W1 = wr := ⟨_, rfl⟩
          subst hWW
          obtain ⟨W5, hW5, hone, hb5, hs5⟩ : ∃ W5, W1.alloc (.cells #[.int .i64 x, .int .i64 y] 42) = W5 ∧ OwnP W5 W0.heap.size (.slice (some ⟨W1.heap.size, 0, none⟩) 1 1) [(x, y)] ∧ Below W1.heap.size W1 W5 ∧ W5.heap.size = W1.heap.size + 1 :=
            ⟨_, rfl, own_oneP W1 (x, y) _ hbw.size, newB _ _, by simp⟩
          have Hown5 := Lib.hid (ownsRow_below Hown.out hb5 : OwnTS W5 W0.heap.size _ xs)
          have Htl5 := Lib.hid ((Htl.out.below hb5).snoc (c := 1) (RPt.of_own (c := 1) (l := [(x, y)]) hone))
          have hbw5 := hbw.trans (hb5.mono hbw.size)
          have hD5 := hbw5.size
          clear hb5 hone
          go_wp2_with (at_builtin; go_loud (refine wpList_appT (by rfl) _ _ (by rfl) W5 W0.heap.size _ xs (some ⟨W1.heap.size, 0, none⟩) 1 1 Hown5.out (by rfl) (by rfl) (by omega) (by omega) hD5 ?_); intro v' w6 hown6 hb6 hg6; have Hown6 := Lib.hid hown6; clear hown6)
          go_roundw
          case rel => exact ⟨k + 1, _, hlt, by go_num, Hown6.out, by rw [Hst.out]; exact Htl5.out.append Hown5.out hg6, Hfx.out.snoc (fun e => by cases e) (Nat.le_refl _), hbw5.trans hb6⟩
          case measure => simp [intOf]; omega
    case neg =>
    obtain rfl : k = G.length := by omega
    have htl := Htl.out
    rw [List.take_length] at htl
    have Htl := Lib.hid htl
    have htl0 : OwnTL wr W0.heap.size xs (dutAR G s ++ dutBR G s kind 0) := by
      show OwnTL wr W0.heap.size xs (dutAR G s ++ [])
      rw [List.append_nil]; exact htl
    have Htl0 := Lib.hid htl0
    clear htl htl0 Htl
    go_wp2_with fail
    go_loopw [7, 9] (fun v i wr => ∃ (a : Nat) (xs : List Value), a ≤ n ∧ i = .int .i64 (a : Int) ∧ OwnTS wr W0.heap.size v xs ∧ OwnTL wr W0.heap.size xs (dutAR G s ++ dutBR G s kind a) ∧ FitX xs ∧ Below W0.heap.size W0 wr) (fun _ i _ => n - (intOf i).toNat)
    case atStart => exact ⟨0, xs, Nat.zero_le _, rfl, Hown.out, Htl0.out, Hfx.out, hbw⟩
    case round =>
      clear Htl0 Hown hbw hbX c0 c1 k1 hxl hk hlt Hfx
      obtain ⟨a, xs, ha, rfl, hown, htl, hfx, hbw⟩ := hrel
      have Hfx := Lib.hid hfx
      clear hfx
      have Hown := Lib.hid hown; have Htl := Lib.hid htl
      have hxl : xs.length ≤ 200000 := by
        have h1 := htl.1
        have h2 := dutAR_len G s
        have h3 := dutBR_len G s kind a
        rw [List.length_append] at h1
        omega
      have k1 := k0.below hbw k0.lt
      obtain ⟨c0, c1, _, _⟩ := k1.two
      have hbX := endB hb0 hbw
      clear hown htl
      by_cases hlt : a < n
      case pos =>
        have hst := dutBR_step (G := G) (s := s) (kind := kind) (k := a)
        have Hst := Lib.hid hst
        clear hst
        go_wp2_with fail
        obtain ⟨wo, hwo⟩ : ∃ wo, wo = wr := ⟨_, rfl⟩
        subst hwo
        go_loopw [10, 11, 12] (fun v h i wr => ∃ (k : Nat), k ≤ s.length ∧ i = .int .i64 (k : Int) ∧ h = .bool (hosR G kind (a : Int) (s.take k)) ∧ OwnP wr wo.heap.size v (dyR G kind (a : Int) (s.take k)) ∧ Below wo.heap.size wo wr) (fun _ _ i _ => s.length - (intOf i).toNat)
        case atStart => exact ⟨0, Nat.zero_le _, rfl, by rw [List.take_zero]; unfold hosR; rw [Hq2.out]; simp, OwnP.nil _ _, Below.refl _ _⟩
        case round =>
          obtain ⟨k, hk, rfl, rfl, hdo, hb2⟩ := hrel
          have hbW := hbw.trans (hb2.mono hbw.size)
          have hbX2 := endB hb0 hbW
          have k2 := k1.below hb2 k1.lt
          clear c0 c1
          obtain ⟨c0, c1, _, _⟩ := k2.two
          have hdl := dyR_len G kind (a : Int) (s.take k)
          rw [List.length_take] at hdl
          by_cases hkl : k < s.length
          case pos =>
            have hstp : s.take (k + 1) = s.take k ++ [s[k]] := List.take_succ_eq_append_getElem hkl
            have hs1 := dyR_snoc G kind (a : Int) (s.take k) s[k]
            have hs2 := hosR_snoc G kind (a : Int) (s.take k) s[k]
            rw [← hstp] at hs1 hs2
            rw [Hq1.out] at hs2
            obtain ⟨b, o, rfl, d0⟩ := (hs.below hbX2).at_ hkl
            obtain ⟨x, hx⟩ : ∃ x, s[k] = x := ⟨_, rfl⟩
            obtain ⟨D, hD⟩ : ∃ D, dyR G kind (a : Int) (s.take k) = D := ⟨_, rfl⟩
            obtain ⟨h, hh⟩ : ∃ h, hosR G kind (a : Int) (s.take k) = h := ⟨_, rfl⟩
            rw [hx, hD] at hs1
            rw [hx, hh] at hs2
            rw [hx] at d0
            rw [hD] at hdo hdl
            rw [hh]
            obtain ⟨AD, cD, hvv⟩ := hdo.shape
            subst hvv
            have hfit := hdo.fit
            have hpu := rPut_any AD D cD (x, (a : Int)) wr (OwnP.rpr hdo) (by omega) hfit.1 hfit.2
            have hhas := fun W (hW : Below w.heap.size w W) => gnHas_any A (n : Int) G c (a : Int) x W (hr.below hW) hl
            obtain ⟨hs3, hhs3⟩ : ∃ hs3, hasB G (a : Int) x = hs3 := ⟨_, rfl⟩
            rw [hhs3] at hs1 hs2 hhas
            have Hs1 := Lib.hid hs1; have Hs2 := Lib.hid hs2; have Hpu := Lib.hid hpu; have Hhas := Lib.hid hhas
            have hsw : wo.heap.size ≤ wr.heap.size := hb2.size
            clear hs1 hs2 hpu hhas hstp hx hD hh hhs3 hfit hdo
            go_wp2_with fail
            refine Hpu.out.mono ?_
            rintro e w3 ⟨A3, c3, rfl, ho3, hb3⟩
            obtain ⟨D1, hD1⟩ : ∃ D1, putL D (x, (a : Int)) = D1 := ⟨_, rfl⟩
            have hD1l := putL_len D (x, (a : Int))
            have hs1 := Hs1.out
            rw [hD1] at ho3 hD1l hs1
            have Hs1 := Lib.hid hs1
            obtain ⟨n3, hn3⟩ : ∃ n3, (putL D (x, (a : Int))).length = n3 := ⟨_, rfl⟩
            have hn3' : n3 = D1.length := by rw [← hn3, hD1]
            rw [hn3]
            rw [← hn3'] at ho3
            have ho3 := OwnP.mono' ho3 hsw
            have Ho3 := Lib.hid ho3; have Hn3 := Lib.hid hn3'
            have hbW3 := endB hbX2 hb3
            have hb23 := hb2.trans (hb3.mono hsw)
            have k3 := k2.below hb3 k2.lt
            have d03 := (hb3.cell (lt_of_cell d0)).trans d0
            clear hs1 hD1 hn3 hn3' ho3 c0 c1 d0 hb3
            obtain ⟨c0, c1, _, _⟩ := k3.two
            go_upto_region 16 with fail
            go_cut [79] (fun v wx => v = .bool (q1 && hs3) ∧ Below w3.heap.size w3 wx)
            case first =>
              cases q1
              case false =>
                go_quiet (fail)
                go_wp2_with fail
                go_meet
                exact ⟨rfl, below_drewN (Below.refl _ _) nq⟩
              case true =>
                refine wp_region_textB [9] (fun w' => Below w3.heap.size w3 w') (fun _ => True) (by kernel_rfl) (by kernel_rfl) (by kernel_rfl) (Below.refl _ _).drew trivial ?_
                repeat (first
                  | (refine TxtBL.skip (by rfl) ?_; simp only [Act.put, List.setIfInBounds_toArray, List.set_cons_zero, List.set_cons_succ])
                  | (refine TxtBL.take (by rfl) (by rfl) ?_; apply Exists.intro; refine ⟨fun w1 hS1 => ?_, ?_⟩; (focus ((have g0 := (hS1.cell (lt_of_cell c0)).trans c0; have g1 := (hS1.cell (lt_of_cell c1)).trans c1; have g2 := (hS1.cell (lt_of_cell d03)).trans d03); go_simp; with_reducible rfl)); simp only [Act.put, List.setIfInBounds_toArray, List.set_cons_zero, List.set_cons_succ])
                  | (refine TxtBL.takeE (by rfl) (by rfl) ?_; apply Exists.intro; refine ⟨fun w1 hS1 => ?_, ?_⟩; (focus ((have g0 := (hS1.cell (lt_of_cell c0)).trans c0; have g1 := (hS1.cell (lt_of_cell c1)).trans c1; have g2 := (hS1.cell (lt_of_cell d03)).trans d03); go_simp; with_reducible rfl)); simp only [Act.put, List.setIfInBounds_toArray, List.set_cons_zero, List.set_cons_succ]))
                refine TxtBL.call (f := 40) (args := #[.agg #[.int .i64 (n : Int), .slice A G.length c], .int .i64 (a : Int), .int .i64 x]) (fun u => u = .bool hs3) (fun _ _ => True) (by rfl) (by rfl) ⟨_, rfl⟩ (fun w1 hS1 hJ1 => by go_simp) (fun w1 hS1 hJ1 => ?_) ?_
                · refine (Hhas.out w1 (endB hbW3 hS1)).mono ?_
                  rintro e w' ⟨rfl, hb⟩
                  exact ⟨_, rfl, hS1.trans (hb.mono hS1.size), rfl, trivial⟩
                rintro _ rfl
                simp only [Act.put, List.setIfInBounds_toArray, List.set_cons_zero, List.set_cons_succ]
                repeat (first
                  | (refine TxtBL.skip (by rfl) ?_; simp only [Act.put, List.setIfInBounds_toArray, List.set_cons_zero, List.set_cons_succ])
                  | (refine TxtBL.take (by rfl) (by rfl) ?_; apply Exists.intro; refine ⟨fun w1 hS1 => ?_, ?_⟩; (focus (skip; go_simp; with_reducible rfl)); simp only [Act.put, List.setIfInBounds_toArray, List.set_cons_zero, List.set_cons_succ])
                  | (refine TxtBL.takeE (by rfl) (by rfl) ?_; apply Exists.intro; refine ⟨fun w1 hS1 => ?_, ?_⟩; (focus (skip; go_simp; with_reducible rfl)); simp only [Act.put, List.setIfInBounds_toArray, List.set_cons_zero, List.set_cons_succ]))
                refine TxtBL.nil (fun W2 hS2 _ => ?_)
                go_wp2_with fail
                go_meet
                exact ⟨rfl, hS2⟩
            obtain ⟨rfl, hb4⟩ := hcut
            obtain ⟨w4, hw4⟩ : ∃ w4, w4 = wc := ⟨_, rfl⟩
            subst hw4
            have ho4 : OwnP w4 wo.heap.size (.slice A3 n3 c3) D1 := ownsRow_below Ho3.out hb4
            have Ho4 := Lib.hid ho4
            clear ho4
            have hb24 := hb23.trans (hb4.mono hb23.size)
            have d04 := (hb4.cell (lt_of_cell d03)).trans d03
            clear c0 c1 d03
            cases hq : (q1 && hs3)
            case false =>
              have hs1 := Hs1.out; have hs2 := Hs2.out
              have hcn : ¬ (kind = 1 ∧ hs3 = true) := fun e => by
                have h1 := Hq1.out
                rw [decide_eq_true e.1] at h1
                rw [← h1, e.2] at hq; cases hq
              rw [if_neg hcn] at hs1
              rw [hq, Bool.or_false] at hs2
              have Hs1 := Lib.hid hs1; have Hs2 := Lib.hid hs2
              clear hs1 hs2 hcn hq
              go_wp2_with fail
              go_roundw
              case rel => exact ⟨k + 1, hkl, by go_num, by rw [Hs2.out], by rw [Hs1.out]; exact Ho4.out, hb24⟩
              case measure => simp [intOf]; omega
            case true =>
              have hs1 := Hs1.out; have hs2 := Hs2.out
              have hqq : q1 = true ∧ hs3 = true := by rw [Bool.and_eq_true] at hq; exact hq
              have hcn : kind = 1 ∧ hs3 = true := ⟨of_decide_eq_true (Hq1.out.trans hqq.1), hqq.2⟩
              rw [if_pos hcn] at hs1
              rw [hq, Bool.or_true] at hs2
              have hfit := Ho4.out.fit
              have hpu := rPut_any A3 D1 c3 ((a : Int), x) w4 (OwnP.rpr Ho4.out) (by omega) hfit.1 hfit.2
              rw [← Hn3.out] at hpu
              have hsw4 : wo.heap.size ≤ w4.heap.size := hb24.size
              have Hs1 := Lib.hid hs1; have Hs2 := Lib.hid hs2; have Hpu := Lib.hid hpu
              clear hs1 hs2 hcn hq hqq hpu hfit
              go_wp2_with fail
              refine Hpu.out.mono ?_
              rintro e w5 ⟨A5, c5, rfl, ho5, hb5⟩
              obtain ⟨D2, hD2⟩ : ∃ D2, putL D1 ((a : Int), x) = D2 := ⟨_, rfl⟩
              have hs1 := Hs1.out
              rw [hD2] at ho5 hs1
              obtain ⟨n5, hn5⟩ : ∃ n5, (putL D1 ((a : Int), x)).length = n5 := ⟨_, rfl⟩
              have hn5' : n5 = D2.length := by rw [← hn5, hD2]
              rw [hn5]
              rw [← hn5'] at ho5
              have ho5 := OwnP.mono' ho5 hsw4
              have Ho5 := Lib.hid ho5; have Hs1 := Lib.hid hs1
              have hb25 := hb24.trans (hb5.mono hsw4)
              clear hs1 hD2 hn5 hn5' ho5 hb5
              go_wp2_with fail
              go_roundw
              case rel => exact ⟨k + 1, hkl, by go_num, by rw [Hs2.out], by rw [Hs1.out]; exact Ho5.out, hb25⟩
              case measure => simp [intOf]; omega
          case neg =>
            obtain rfl : k = s.length := by omega
            rw [List.take_length]
            rw [List.take_length] at hdo hdl
            obtain ⟨h, hh⟩ : ∃ h, hosR G kind (a : Int) s = h := ⟨_, rfl⟩
            obtain ⟨D, hD⟩ : ∃ D, dyR G kind (a : Int) s = D := ⟨_, rfl⟩
            have hst := Hst.out
            unfold oweR at hst
            rw [hD, hh] at hst
            rw [hD] at hdo hdl
            rw [hh]
            obtain ⟨AD, cD, hvv⟩ := hdo.shape
            subst hvv
            have h1 := nwIn_any Bs s cs (a : Int) wr (hs.below hbX2) (by omega)
            have h2 := nwAtk_any A (n : Int) G c Bs s cs (a : Int) wr (hr.below hbX2) hl (hs.below hbX2) (by omega)
            obtain ⟨b1, hb1⟩ : ∃ b1, inB s (a : Int) = b1 := ⟨_, rfl⟩
            obtain ⟨b2, hbb2⟩ : ∃ b2, atkB G s (a : Int) = b2 := ⟨_, rfl⟩
            rw [hb1, hbb2] at hst
            rw [hb1] at h1
            rw [hbb2] at h2
            have HownR := Lib.hid (ownsRow_below Hown.out hb2 : OwnTS wr W0.heap.size _ xs)
            have HtlR := Lib.hid (Htl.out.below hb2)
            have hso : W0.heap.size ≤ wo.heap.size := hbw.size
            have Hst := Lib.hid hst; have H1 := Lib.hid h1; have H2 := Lib.hid h2; have Hdo := Lib.hid hdo
            clear hst h1 h2 hb1 hbb2 hh hD hdo
            cases h
            case false =>
              have hst := Hst.out
              rw [Bool.false_and, if_neg (by decide)] at hst
              have Hst := Lib.hid hst
              clear hst
              go_wp2_with fail
              go_roundw
              case rel => exact ⟨a + 1, xs, hlt, by go_num, HownR.out, by rw [Hst.out]; exact HtlR.out, Hfx.out, hbW⟩
              case measure => simp [intOf]; omega
            go_wp2_with fail
            refine H1.out.mono ?_
            rintro e w3 ⟨rfl, hww⟩
            subst hww
            cases b1
            case true =>
              have hst := Hst.out
              rw [show (true && (!true && !b2)) = false by rfl, if_neg (by decide)] at hst
              have Hst := Lib.hid hst
              clear hst
              go_wp2_with fail
              go_roundw
              case rel => exact ⟨a + 1, xs, hlt, by go_num, HownR.out, by rw [Hst.out]; exact HtlR.out, Hfx.out, hbW⟩
              case measure => simp [intOf]; omega
            go_wp2_with fail
            refine H2.out.mono ?_
            rintro e w3 ⟨rfl, hb3⟩
            have hbW3 := hbW.trans (hb3.mono hbW.size)
            have HownR := Lib.hid (ownsRow_below HownR.out hb3 : OwnTS w3 W0.heap.size _ xs)
            have HtlR := Lib.hid (HtlR.out.below hb3)
            have hdo : OwnP w3 wo.heap.size (.slice AD D.length cD) D := ownsRow_below Hdo.out hb3
            have Hdo := Lib.hid hdo
            clear hdo
            cases b2
            case true =>
              have hst := Hst.out
              rw [show (true && (!false && !true)) = false by rfl, if_neg (by decide)] at hst
              have Hst := Lib.hid hst
              clear hst
              go_wp2_with fail
              go_roundw
              case rel => exact ⟨a + 1, xs, hlt, by go_num, HownR.out, by rw [Hst.out]; exact HtlR.out, Hfx.out, hbW3⟩
              case measure => simp [intOf]; omega
            have hst := Hst.out
            rw [show (true && (!false && !false)) = true by rfl, if_pos rfl] at hst
            have Hst := Lib.hid hst
            have Htl5 := Lib.hid (HtlR.out.snoc (c := cD) ((RPt.of_own Hdo.out).mono hso))
            have hD5 := hbW3.size
            obtain ⟨nD, hnD⟩ : ∃ nD, D.length = nD := ⟨_, rfl⟩
            have hfD := Hdo.out.fit
            rw [hnD] at hfD
            have HfD := Lib.hid (And.intro (fun e : AD = none => (show nD = 0 ∧ cD = 0 from ⟨by rw [← hnD, (hfD.1 e).1]; rfl, (hfD.1 e).2⟩)) hfD.2)
            clear hfD
            rw [hnD] at Htl5 ⊢
            clear hst hnD
            go_wp2_with (at_builtin; go_loud (refine wpList_appT (by rfl) _ _ (by rfl) w3 W0.heap.size _ xs AD nD cD HownR.out (by rfl) (by rfl) (by rfl) (by omega) hD5 ?_); intro v' w6 hown6 hb6 hg6; have Hown6 := Lib.hid hown6; clear hown6)
            go_roundw
            case rel => exact ⟨a + 1, _, hlt, by go_num, Hown6.out, by rw [Hst.out, ← List.append_assoc]; exact Htl5.out.append HownR.out hg6, Hfx.out.snoc HfD.out.1 HfD.out.2, hbW3.trans hb6⟩
            case measure => simp [intOf]; omega
      case neg =>
        obtain rfl : a = n := by omega
        obtain ⟨AF, cF, rfl, hrt, _⟩ := Hown.out.forms Htl.out
        go_wp2_with fail
        go_ret
        exact ⟨AF, cF, xs, rfl, ownsRow_mono Hown.out hb0.size, Htl.out.mono hb0.size, Hfx.out, hrt, hbX⟩
end Go.Proofs.YtncimnfhfomddaaDoor

/- ref21.Strict. Printed by gen_rst.py. -/
namespace Go.Proofs.YtncimnfhfomddaaDoor
open Go.ChangeShapes Go.WideShapes Go.ChangeAt Go.RowKit

/-- the test of ref21.Strict -/
def pkQ (s : List Int) (m : Nat) (q : Int × Int) : Bool := decide (1 < m) && (decide (q.1 = s.headD 0) && !inB s q.2)
def pkF (s : List Int) (m : Nat) (p : Int × Int) (d : List (Int × Int)) : Int × Int := d.foldl (fun p q => if pkQ s m q = true then q else p) p
theorem pkF_snoc (s : List Int) (m : Nat) (p : Int × Int) (d : List (Int × Int)) (q : Int × Int) : pkF s m p (d ++ [q]) = if pkQ s m q = true then q else pkF s m p d := by
  unfold pkF; rw [List.foldl_append]; rfl
theorem pkF_no {s : List Int} {m : Nat} {p : Int × Int} {d : List (Int × Int)} (h : ∀ q ∈ d, pkQ s m q = false) : pkF s m p d = p := by
  induction d generalizing p with
  | nil => rfl
  | cons q d ih =>
    show pkF s m (if pkQ s m q = true then q else p) d = p
    rw [h q (by simp), if_neg (by decide)]
    exact ih fun x hx => h x (List.mem_cons_of_mem _ hx)
theorem pkF_one {s : List Int} {m : Nat} {v : Int × Int} : ∀ {d : List (Int × Int)} {p : Int × Int}, (∀ q ∈ d, pkQ s m q = true → q = v) → (p = v ∨ (v ∈ d ∧ pkQ s m v = true)) → pkF s m p d = v := by
  intro d
  induction d with
  | nil => intro p _ h; rcases h with h | ⟨h, _⟩
           · exact h
           · cases h
  | cons q d ih =>
    intro p h1 h2
    show pkF s m (if pkQ s m q = true then q else p) d = v
    refine ih (fun x hx => h1 x (List.mem_cons_of_mem _ hx)) ?_
    by_cases hq : pkQ s m q = true
    · rw [if_pos hq]; exact .inl (h1 q (by simp) hq)
    · rw [if_neg hq]
      rcases h2 with h2 | ⟨h2, h3⟩
      · exact .inl h2
      · rcases List.mem_cons.1 h2 with rfl | h2
        · exact absurd h3 hq
        · exact .inr ⟨h2, h3⟩
/-- both take the same pair -/
theorem pk_eq {n : Nat} {G : List (Int × Int)} {s : List Int} {kind : Int} (hs : setB n s = true) (hh : hpB n s kind = false) (hk : kind = 1 ∨ kind = 2) {d : List (Int × Int)} (hd : d ∈ dutR n G s kind) : pkF s d.length (d.headD (0, 0)) d = chgP (maskN s) s d := by
  rcases mem_dutR.1 hd with ⟨p, _, h1, h2, rfl⟩ | ⟨a, ha, hns, hk2, hno, rfl⟩
  · rw [chg_one hs h1 h2]
    rfl
  · have hne := dut_ne hh hk ha hk2
    rw [chg_owe hs hns hne]
    have hin : (s.headD 0, (a : Int)) ∈ dyR G kind a s := (dyR_mem _).2 ⟨_, head_mem hne, .inl rfl⟩
    have hna : inB s (a : Int) = false := by rw [← Bool.not_eq_true, inB_iff]; exact hns
    refine pkF_one (fun q hq hp => ?_) ?_
    · unfold pkQ at hp
      simp only [Bool.and_eq_true, decide_eq_true_iff, Bool.not_eq_true'] at hp
      obtain ⟨x, hx, rfl | ⟨rfl, _⟩⟩ := (dyR_mem _).1 hq
      · exact Prod.ext hp.2.1 rfl
      · have := hp.2.2
        rw [(inB_iff _ _).2 hx] at this; cases this
    · by_cases hl : 1 < (dyR G kind a s).length
      · refine .inr ⟨hin, ?_⟩
        unfold pkQ
        rw [decide_eq_true hl, hna]
        simp
      · refine .inl ?_
        cases hdd : dyR G kind a s with
        | nil => rw [hdd] at hin; cases hin
        | cons p r =>
          rw [hdd] at hl hin
          have : r = [] := List.eq_nil_of_length_eq_zero (by simp at hl; exact List.length_eq_zero_iff.2 hl)
          subst this
          rw [List.mem_singleton] at hin
          exact hin.symm
/-- the duties that may have been made, with what fits -/
def DuF (B : Nat) (L : List (List (Int × Int))) (o : Option (Option Addr × Nat)) (w : World) : Prop := ∀ A c, o = some (A, c) → ∃ xs, OwnTS w B (.slice A L.length c) xs ∧ OwnTL w B xs L ∧ FitX xs
theorem DuF.no {B : Nat} {L : List (List (Int × Int))} {w : World} : DuF B L none w := fun _ _ e => by cases e
theorem DuF.below {B : Nat} {L : List (List (Int × Int))} {o : Option (Option Addr × Nat)} {w w' : World} (h : DuF B L o w) (hb : Below w.heap.size w w') : DuF B L o w' := fun A c e => by
  obtain ⟨xs, h1, h2, h3⟩ := h A c e
  exact ⟨xs, ownsRow_below h1 hb, h2.below hb, h3⟩
/-- the enforcement's box, with the clone and the duties -/
structure StF (B : Nat) (s : List Int) (L : List (List (Int × Int))) (AC : Option Addr) (cC : Nat) (AD : Option Addr) (cD q : Nat) (w : World) : Prop where
  hq : B ≤ q
  box : Blk w q 28 #[.slice AC s.length cC, .slice none 0 0, .slice AD L.length cD]
  cl : OwnI w B (.slice AC s.length cC) s
  du : ∃ xs, OwnTS w B (.slice AD L.length cD) xs ∧ OwnTL w B xs L ∧ FitX xs
theorem stf_made {B : Nat} {s : List Int} {L : List (List (Int × Int))} {AC : Option Addr} {cC : Nat} {AD : Option Addr} {cD q : Nat} {w : World} {xs : List Value} (hq : B ≤ q) (hk : Blk w q 28 #[.slice none 0 0, .slice none 0 0, .slice none 0 0])
    (hc : OwnI w B (.slice AC s.length cC) s) (ho : OwnTS w B (.slice AD L.length cD) xs) (hl : OwnTL w B xs L) (hx : FitX xs) :
    StF B s L AC cC AD cD q (((w.setCell ⟨q, 0, none⟩ (.slice AC s.length cC)).setCell ⟨q, 1, none⟩ (.slice none 0 0)).setCell ⟨q, 2, none⟩ (.slice AD L.length cD)) := by
  have hg : w.grownBy (((w.setCell ⟨q, 0, none⟩ (.slice AC s.length cC)).setCell ⟨q, 1, none⟩ (.slice none 0 0)).setCell ⟨q, 2, none⟩ (.slice AD L.length cD)) (some q) := grownBy_trans (grownBy_trans (grownBy_setCell w q 0 _) (grownBy_setCell _ q 1 _)) (grownBy_setCell _ q 2 _)
  exact ⟨hq, ((hk.set_ 0 _).set_ 1 _).set_ 2 _, World.ownsRow.kept hc hg (.inr (own_apart hc hk (by decide))), xs, World.ownsRow.kept ho hg (.inr (own_apart ho hk (by decide))), hl.apartB hk (by decide) hg, hx⟩
/-- ref21.Strict's answer -/
def RetEr (N : Int) (G : List (Int × Int)) (s : List Int) (kind : Int) (w : World) : Ending → World → Prop := fun e w' => Below w.heap.size w w' ∧
  ((stErr N G s kind ≠ 0 ∧ e = .returned (.tuple #[.agg #[.slice none 0 0, .slice none 0 0, .slice none 0 0], .int .i64 (stErr N G s kind)])) ∨
   (stErr N G s kind = 0 ∧ ∃ AC cC AH cH AD cD xs, e = .returned (.tuple #[.agg #[.slice AC s.length cC, .slice AH (strC N.toNat G s kind).length cH, .slice AD (dutL N.toNat G s kind).length cD], .int .i64 0]) ∧
     OwnI w' w.heap.size (.slice AC s.length cC) s ∧ OwnP w' w.heap.size (.slice AH (strC N.toNat G s kind).length cH) (strC N.toNat G s kind) ∧ OwnTS w' w.heap.size (.slice AD (dutL N.toNat G s kind).length cD) xs ∧ OwnTL w' w.heap.size xs (dutL N.toNat G s kind) ∧ FitX xs))
set_option maxRecDepth 100000 in
set_option maxHeartbeats 8000000 in
theorem rStrict_any (A : Option Addr) (N : Int) (G : List (Int × Int)) (c : Nat) (Bs : Option Addr) (s : List Int) (cs : Nat) (kind : Int) (w : World) (hr : RP w A G) (hl : G.length ≤ 100000) (hs : RI w Bs s) (hsn : Bs = none → s = [] ∧ cs = 0) (hls : s.length ≤ 100000) :
    Calls Tryd.prog 17 #[.agg #[.int .i64 N, .slice A G.length c], .slice Bs s.length cs, .int .i64 kind] w (RetEr N G s kind w) := by
  have Hsn := Lib.hid hsn
  clear hsn
  go_enter Tryd.func17, Tryd.ntmps17
  go_upto_region 1 with fail
  obtain ⟨W0, hW, k0, hb0, hs0⟩ := boxG w N A G.length c
  rw [hW]
  obtain ⟨W1, hW1, k1, hb1, hs1'⟩ := boxE W0
  rw [hW1]
  have hb01 := endB hb0 hb1
  have k01 := k0.below hb1 k0.lt
  rw [hs0] at k1
  clear hW hW1 k0 hb0 hb1 hs0 hs1'
  obtain ⟨d0, d1, _, _⟩ := k01.two
  go_wp2_with fail
  refine (rPos_any A N G c Bs s cs kind W1 (hr.below hb01) hl (hs.below hb01) hls).mono ?_
  rintro e w2 ⟨rfl, hb2⟩
  have hbb2 := endB hb01 hb2
  have k12 := k1.below hb2 k1.lt
  have k02 := k01.below hb2 k01.lt
  clear d0 d1 k01 k1 hb01 hb2
  obtain ⟨d0, d1, _, _⟩ := k02.two
  by_cases ha : arE N G s kind = 0
  case neg =>
    have he : stErr N G s kind = arE N G s kind := by unfold stErr; rw [if_neg ha]
    have hd : (arE N G s kind != 0) = true := by simp [ha]
    obtain ⟨Y, hY, hbY, e0, e1, e2⟩ := en_put (.slice none 0 0) (.slice none 0 0) (.slice none 0 0) k12 hbb2
    rw [← hY] at e0 e1 e2
    have HbY := Lib.hid hbY
    rw [← hY] at HbY
    clear hY hbY
    obtain ⟨y0, y1, y2, _, _⟩ := k12.threeE
    have z0 := k12.frozen 0
    go_wp2_with fail
    refine bodyPost_ret (v := .tuple #[.agg #[.slice none 0 0, .slice none 0 0, .slice none 0 0], .int .i64 (arE N G s kind)]) (by simp only [results, Tryd.results17]; simp [go_sem, e0, e1, e2]) rfl ?_
    exact ⟨HbY.out, .inl ⟨by rw [he]; exact ha, by rw [he]⟩⟩
  have hd : (arE N G s kind != 0) = false := by simp [ha]
  have hha : ∀ b, hpB N s kind = b → (b = true → stErr N G s kind = 9) ∧ (b = false → stErr N G s kind = 0) := fun b hb => by
    unfold stErr
    rw [if_pos ha, hb]
    exact ⟨fun e => by rw [e]; rfl, fun e => by rw [e]; rfl⟩
  obtain ⟨hv0, hk, hsb⟩ := arE_ok ha
  obtain ⟨n, rfl, hv⟩ := vld_of_valE hv0 hl
  obtain ⟨hb, hhb⟩ : ∃ hb, hpB (n : Int) s kind = hb := ⟨_, rfl⟩
  obtain ⟨hx9, hx0⟩ := hha hb hhb
  have e0 : (((s.length : Nat) : Int) == 0) = decide (s = []) := by
    cases s with
    | nil => rfl
    | cons x r => simp; omega
  have e1 : (kind == 2) = decide (kind = 2) := by
    by_cases h : kind = 2
    · subst h; rfl
    · simp [h]
  have Hx9 := Lib.hid hx9; have Hx0 := Lib.hid hx0; have Hv := Lib.hid hv; have Hk := Lib.hid hk; have Hsb := Lib.hid hsb; have Hhb := Lib.hid hhb
  unfold hpB at hhb
  have hhb' := hhb
  clear hha hx9 hx0 hv0 hv hk hsb ha hhb
  obtain ⟨W3, hW3⟩ : ∃ W3, W3 = w2 := ⟨_, rfl⟩
  subst hW3
  go_upto_region 4 with fail
  go_cut [33] (fun v wx => v = .bool hb ∧ wx = W3)
  case first =>
    obtain ⟨b0, hb0⟩ : ∃ b, decide (s = []) = b := ⟨_, rfl⟩
    obtain ⟨b1, hb1⟩ : ∃ b, decide (kind = 2) = b := ⟨_, rfl⟩
    rw [hb0] at e0 hhb'
    rw [hb1] at e1 hhb'
    have Hhb2 := Lib.hid hhb'
    clear hhb' hb0 hb1
    cases b0
    · go_wp2_with fail
      go_meet
      exact ⟨by rw [← Hhb2.out]; rfl, rfl⟩
    cases b1
    · go_wp2_with fail
      go_meet
      exact ⟨by rw [← Hhb2.out]; rfl, rfl⟩
    go_wp2_with fail
    go_meet
    exact ⟨by rw [← Hhb2.out]; simp, rfl⟩
  obtain ⟨rfl, rfl⟩ := hcut
  clear hhb' e0 e1
  cases hb
  case true =>
    have he := Hx9.out rfl
    have He := Lib.hid he
    clear he
    obtain ⟨Y, hY, hbY, e0, e1, e2⟩ := en_put (.slice none 0 0) (.slice none 0 0) (.slice none 0 0) k12 hbb2
    rw [← hY] at e0 e1 e2
    have HbY := Lib.hid hbY
    rw [← hY] at HbY
    clear hY hbY
    obtain ⟨y0, y1, y2, _, _⟩ := k12.threeE
    have z0 := k12.frozen 0
    go_wp2_with fail
    refine bodyPost_ret (v := .tuple #[.agg #[.slice none 0 0, .slice none 0 0, .slice none 0 0], .int .i64 9]) (by simp only [results, Tryd.results17]; simp [go_sem, e0, e1, e2]) rfl ?_
    exact ⟨HbY.out, .inl ⟨by rw [He.out]; decide, by rw [He.out]⟩⟩
  have He := Lib.hid (Hx0.out rfl)
  have hr1 := hr.below hbb2
  have hs1 := hs.below hbb2
  have hls2 := setB_len Hsb.out
  have hn40 := Hv.out.1.1
  have hdu := fun w hr hs => rDuties_any A n G c Bs s cs kind w hr hl hs (by omega) (by omega)
  have hdq := dutR_eq Hv.out.1 Hsb.out Hk.out
  have hok := dut_ok Hv.out Hsb.out Hhb.out Hk.out
  have hpk := fun d hd => pk_eq (d := d) Hsb.out Hhb.out Hk.out (by rw [hdq]; exact hd)
  have hLl : (dutL n G s kind).length ≤ 200000 := by
    unfold dutL
    have h1 := dutA_len (maskN s) G
    have h3 := dutB_len n G s kind n
    unfold dutB at h3
    rw [List.length_append]
    omega
  have hdl : ∀ d ∈ dutL n G s kind, d.length ≤ 100000 := fun d hd => by
    rw [← hdq] at hd
    rcases mem_dutR.1 hd with ⟨p, _, _, _, rfl⟩ | ⟨a, _, _, _, _, rfl⟩
    · simp
    · have := dyR_len G kind a s; omega
  rw [hdq] at hdu
  obtain ⟨L, hL⟩ : ∃ L, dutL n G s kind = L := ⟨_, rfl⟩
  rw [hL] at hok hdu hLl hpk hdl
  have Hdu := Lib.hid hdu; have Hok := Lib.hid hok; have HL := Lib.hid hL; have Hpk := Lib.hid hpk; have Hdl := Lib.hid hdl
  clear hdu hok hL hdq hpk hdl
  obtain ⟨W1, hW1⟩ : ∃ W1, W1 = wc := ⟨_, rfl⟩
  subst hW1
  go_upto_region 6 with fail
  go_cut [9] (fun b wx => ∃ q AC cC AD cD, b = Value.pointer (some ⟨q, 0, none⟩) ∧ StF W1.heap.size s L AC cC AD cD q wx ∧ Below W1.heap.size W1 wx)
  case first =>
    refine wp_region_tree [1, 5, 7, 8] (fun w' => Below W1.heap.size W1 w') (fun w' => ClC W1.heap.size s none w' ∧ DuF W1.heap.size L none w' ∧ BxC 28 #[.slice none 0 0, .slice none 0 0, .slice none 0 0] none W1.heap.size w') 9 [0, 1, 2, 3, 4, 5, 6, 7, 8] (by rfl) (by decide) (by kernel_rfl) (by kernel_rfl) (Below.refl _ _).drew ⟨ClC.no, DuF.no, BxC.no⟩ ?_
    refine TxtT.pure 0 (by rfl) (by rw [List.getElem?_toArray]; rfl) (by rfl) (by as_aux_lemma => kernel_rfl) (by rfl) ?_; apply Exists.intro; refine ⟨fun w1 hS1 => ?_, ?_⟩; (focus (skip; go_simp; with_reducible rfl))
    rw [show List.erase [0, 1, 2, 3, 4, 5, 6, 7, 8] 0 = [1, 2, 3, 4, 5, 6, 7, 8] from rfl]; simp only [Act.put, List.setIfInBounds_toArray, List.set_cons_zero, List.set_cons_succ]
    refine TxtT.pure 2 (by rfl) (by rw [List.getElem?_toArray]; rfl) (by rfl) (by as_aux_lemma => kernel_rfl) (by rfl) ?_; apply Exists.intro; refine ⟨fun w1 hS1 => ?_, ?_⟩; (focus ((have g0 := (hS1.cell (lt_of_cell d0)).trans d0; have g1 := (hS1.cell (lt_of_cell d1)).trans d1); go_simp; with_reducible rfl))
    rw [show List.erase [1, 2, 3, 4, 5, 6, 7, 8] 2 = [1, 3, 4, 5, 6, 7, 8] from rfl]; simp only [Act.put, List.setIfInBounds_toArray, List.set_cons_zero, List.set_cons_succ]
    refine TxtT.pure 3 (by rfl) (by rw [List.getElem?_toArray]; rfl) (by rfl) (by as_aux_lemma => kernel_rfl) (by rfl) ?_; apply Exists.intro; refine ⟨fun w1 hS1 => ?_, ?_⟩; (focus (skip; go_simp; with_reducible rfl))
    rw [show List.erase [1, 3, 4, 5, 6, 7, 8] 3 = [1, 4, 5, 6, 7, 8] from rfl]; simp only [Act.put, List.setIfInBounds_toArray, List.set_cons_zero, List.set_cons_succ]
    refine TxtT.pure 4 (by rfl) (by rw [List.getElem?_toArray]; rfl) (by rfl) (by as_aux_lemma => kernel_rfl) (by rfl) ?_; apply Exists.intro; refine ⟨fun w1 hS1 => ?_, ?_⟩; (focus (skip; go_simp; with_reducible rfl))
    rw [show List.erase [1, 4, 5, 6, 7, 8] 4 = [1, 5, 6, 7, 8] from rfl]; simp only [Act.put, List.setIfInBounds_toArray, List.set_cons_zero, List.set_cons_succ]
    refine TxtT.two 1 7 (by as_aux_lemma => kernel_rfl) (by rw [List.getElem?_toArray]; rfl) (by rw [List.getElem?_toArray]; rfl) (by rfl) (by rfl) (by rfl) (by rfl) (fun v => ∃ A c, v = Value.slice A s.length c) (fun v w' => ∃ AC cC, v = Value.slice AC s.length cC ∧ ClC W1.heap.size s (some (AC, cC)) w' ∧ DuF W1.heap.size L none w' ∧ BxC 28 #[.slice none 0 0, .slice none 0 0, .slice none 0 0] none W1.heap.size w') (fun v => ∃ q, v = Value.pointer (some ⟨q, 0, none⟩)) (fun v w' => ∃ q, v = Value.pointer (some ⟨q, 0, none⟩) ∧ ClC W1.heap.size s none w' ∧ DuF W1.heap.size L none w' ∧ BxC 28 #[.slice none 0 0, .slice none 0 0, .slice none 0 0] (some q) W1.heap.size w') (fun w1 hS1 hJ1 => ?_) (fun w1 hS1 hJ1 => ?_) ?_ ?_
    · refine eff_appIs (.const (.slice none 0 0)) (.tmp 35) (by rfl) w1 W1.heap.size (.slice none 0 0) [] Bs s cs (OwnI.nil _ _) (hs1.below hS1) Hsn.out (by rfl) (by rfl) (by simp; omega) hS1.size fun v' w' hown' hb hg => ?_
      rw [List.nil_append] at hown'
      obtain ⟨A1, c1, rfl⟩ := shapeI hown'
      have hb' : Below w1.heap.size w1 w' := ⟨hg.os, hg.tape, hg.output, hg.size, fun k hk => hg.block k hk (by simp [Value.ownBlock])⟩
      exact ⟨hS1.trans hb, ⟨A1, c1, rfl⟩, A1, c1, rfl, (fun A c e => by injection e with e; injection e with e1 e2; subst e1 e2; exact hown'), hJ1.2.1.below hb', hJ1.2.2.below hb'⟩
    · exact Eff.value (w' := w1.alloc (.cells #[.slice none 0 0, .slice none 0 0, .slice none 0 0] 28)) (v := .pointer (some ⟨w1.heap.size, 0, none⟩)) (by go_simp) ⟨hS1.trans ((newB w1 _).mono hS1.size), ⟨_, rfl⟩, _, rfl, hJ1.1.below (newB w1 _), hJ1.2.1.below (newB w1 _), BxC.new hS1.size⟩
    ·
      rintro _ ⟨AC, cC, rfl⟩
      rw [show List.erase [1, 5, 6, 7, 8] 1 = [5, 6, 7, 8] from rfl]; simp only [Act.put, List.setIfInBounds_toArray, List.set_cons_zero, List.set_cons_succ]
      refine TxtT.weakJ (J2 := fun w' => ClC W1.heap.size s (some (AC, cC)) w' ∧ DuF W1.heap.size L none w' ∧ BxC 28 #[.slice none 0 0, .slice none 0 0, .slice none 0 0] none W1.heap.size w') (fun w1 h => by obtain ⟨x, y, hq, h⟩ := h; simp only [Value.slice.injEq, true_and] at hq; obtain ⟨hq1, hq2⟩ := hq; subst hq1; subst hq2; exact h) ?_
      refine TxtT.two 5 7 (by as_aux_lemma => kernel_rfl) (by rw [List.getElem?_toArray]; rfl) (by rw [List.getElem?_toArray]; rfl) (by rfl) (by rfl) (by rfl) (by rfl) (fun v => ∃ A c, v = Value.slice A L.length c) (fun v w' => ∃ AD cD, v = Value.slice AD L.length cD ∧ ClC W1.heap.size s (some (AC, cC)) w' ∧ DuF W1.heap.size L (some (AD, cD)) w' ∧ BxC 28 #[.slice none 0 0, .slice none 0 0, .slice none 0 0] none W1.heap.size w') (fun v => ∃ q, v = Value.pointer (some ⟨q, 0, none⟩)) (fun v w' => ∃ q, v = Value.pointer (some ⟨q, 0, none⟩) ∧ ClC W1.heap.size s (some (AC, cC)) w' ∧ DuF W1.heap.size L none w' ∧ BxC 28 #[.slice none 0 0, .slice none 0 0, .slice none 0 0] (some q) W1.heap.size w') (fun w1 hS1 hJ1 => ?_) (fun w1 hS1 hJ1 => ?_) ?_ ?_
      · refine Eff.call (f := 47) (args := #[.agg #[.int .i64 (n : Int), .slice A G.length c], .slice Bs s.length cs, .int .i64 kind]) (by go_simp) ((Hdu.out w1 (hr1.below hS1) (hs1.below hS1)).mono ?_)
        rintro e w' ⟨A1, c1, xs, rfl, ho, hl, hfx, _, hb⟩
        exact ⟨_, rfl, hS1.trans (hb.mono hS1.size), ⟨A1, c1, rfl⟩, A1, c1, rfl, hJ1.1.below hb, (fun A c e => by injection e with e; injection e with e1 e2; subst e1 e2; exact ⟨xs, ownsRow_mono ho hS1.size, hl.mono hS1.size, hfx⟩), hJ1.2.2.below hb⟩
      · exact Eff.value (w' := w1.alloc (.cells #[.slice none 0 0, .slice none 0 0, .slice none 0 0] 28)) (v := .pointer (some ⟨w1.heap.size, 0, none⟩)) (by go_simp) ⟨hS1.trans ((newB w1 _).mono hS1.size), ⟨_, rfl⟩, _, rfl, hJ1.1.below (newB w1 _), hJ1.2.1.below (newB w1 _), BxC.new hS1.size⟩
      ·
        rintro _ ⟨AD, cD, rfl⟩
        rw [show List.erase [5, 6, 7, 8] 5 = [6, 7, 8] from rfl]; simp only [Act.put, List.setIfInBounds_toArray, List.set_cons_zero, List.set_cons_succ]
        refine TxtT.weakJ (J2 := fun w' => ClC W1.heap.size s (some (AC, cC)) w' ∧ DuF W1.heap.size L (some (AD, cD)) w' ∧ BxC 28 #[.slice none 0 0, .slice none 0 0, .slice none 0 0] none W1.heap.size w') (fun w1 h => by obtain ⟨x, y, hq, h⟩ := h; simp only [Value.slice.injEq, true_and] at hq; obtain ⟨hq1, hq2⟩ := hq; subst hq1; subst hq2; exact h) ?_
        refine TxtT.pure 6 (by rfl) (by rw [List.getElem?_toArray]; rfl) (by rfl) (by as_aux_lemma => kernel_rfl) (by rfl) ?_; apply Exists.intro; refine ⟨fun w1 hS1 => ?_, ?_⟩; (focus (skip; go_simp; with_reducible rfl))
        rw [show List.erase [6, 7, 8] 6 = [7, 8] from rfl]; simp only [Act.put, List.setIfInBounds_toArray, List.set_cons_zero, List.set_cons_succ]
        refine TxtT.one 7 (by as_aux_lemma => kernel_rfl) (by rw [List.getElem?_toArray]; rfl) (by rfl) (by rfl) (fun v => ∃ q, v = Value.pointer (some ⟨q, 0, none⟩)) (fun v w' => ∃ q, v = Value.pointer (some ⟨q, 0, none⟩) ∧ ClC W1.heap.size s (some (AC, cC)) w' ∧ DuF W1.heap.size L (some (AD, cD)) w' ∧ BxC 28 #[.slice none 0 0, .slice none 0 0, .slice none 0 0] (some q) W1.heap.size w') (fun w1 hS1 hJ1 => ?_) ?_
        · exact Eff.value (w' := w1.alloc (.cells #[.slice none 0 0, .slice none 0 0, .slice none 0 0] 28)) (v := .pointer (some ⟨w1.heap.size, 0, none⟩)) (by go_simp) ⟨hS1.trans ((newB w1 _).mono hS1.size), ⟨_, rfl⟩, _, rfl, hJ1.1.below (newB w1 _), hJ1.2.1.below (newB w1 _), BxC.new hS1.size⟩
        rintro _ ⟨q, rfl⟩
        rw [show List.erase [7, 8] 7 = [8] from rfl]; simp only [Act.put, List.setIfInBounds_toArray, List.set_cons_zero, List.set_cons_succ]
        refine TxtT.weakJ (J2 := fun w' => ClC W1.heap.size s (some (AC, cC)) w' ∧ DuF W1.heap.size L (some (AD, cD)) w' ∧ BxC 28 #[.slice none 0 0, .slice none 0 0, .slice none 0 0] (some q) W1.heap.size w') (fun w1 h => by obtain ⟨q', hq, h⟩ := h; injection hq with hq; injection hq with hq; injection hq with hq _ _; subst hq; exact h) ?_
        refine TxtT.one 8 (by as_aux_lemma => kernel_rfl) (by rw [List.getElem?_toArray]; rfl) (by rfl) (by rfl) (fun v => v = undef) (fun _ w' => StF W1.heap.size s L AC cC AD cD q w') (fun w1 hS1 hJ1 => ?_) ?_
        · obtain ⟨hq, hk4⟩ := hJ1.2.2 q rfl
          obtain ⟨xs, ho, hl, hfx⟩ := hJ1.2.1 AD cD rfl
          have hc := hJ1.1 AC cC rfl
          have z0 := hk4.frozen 0; have z1 := hk4.frozen 1; have z2 := hk4.frozen 2
          have y0 : w1.cell? ⟨q, 0, none⟩ = some (.slice none 0 0) := hk4.cell 0; have y1 : w1.cell? ⟨q, 1, none⟩ = some (.slice none 0 0) := hk4.cell 1; have y2 : w1.cell? ⟨q, 2, none⟩ = some (.slice none 0 0) := hk4.cell 2
          exact Eff.skip (w' := ((w1.setCell ⟨q, 0, none⟩ (.slice AC s.length cC)).setCell ⟨q, 1, none⟩ (.slice none 0 0)).setCell ⟨q, 2, none⟩ (.slice AD L.length cD)) (by go_simp) ⟨((hS1.setCell (p := ⟨q, 0, none⟩) hq _).setCell (p := ⟨q, 1, none⟩) hq _).setCell (p := ⟨q, 2, none⟩) hq _, rfl, stf_made hq hk4 hc ho hl hfx⟩
        rintro _ rfl
        rw [show List.erase [8] 8 = [] from rfl]; simp only [Act.put]
        refine ⟨rfl, fun w1 hS1 hJ1 => ?_⟩
        go_wp2_with fail
        go_meet
        exact ⟨q, AC, cC, AD, cD, rfl, hJ1, hS1⟩
      ·
        rintro _ ⟨q, rfl⟩
        rw [show List.erase [5, 6, 7, 8] 7 = [5, 6, 8] from rfl]; simp only [Act.put, List.setIfInBounds_toArray, List.set_cons_zero, List.set_cons_succ]
        refine TxtT.weakJ (J2 := fun w' => ClC W1.heap.size s (some (AC, cC)) w' ∧ DuF W1.heap.size L none w' ∧ BxC 28 #[.slice none 0 0, .slice none 0 0, .slice none 0 0] (some q) W1.heap.size w') (fun w1 h => by obtain ⟨q', hq, h⟩ := h; injection hq with hq; injection hq with hq; injection hq with hq _ _; subst hq; exact h) ?_
        refine TxtT.one 5 (by as_aux_lemma => kernel_rfl) (by rw [List.getElem?_toArray]; rfl) (by rfl) (by rfl) (fun v => ∃ A c, v = Value.slice A L.length c) (fun v w' => ∃ AD cD, v = Value.slice AD L.length cD ∧ ClC W1.heap.size s (some (AC, cC)) w' ∧ DuF W1.heap.size L (some (AD, cD)) w' ∧ BxC 28 #[.slice none 0 0, .slice none 0 0, .slice none 0 0] (some q) W1.heap.size w') (fun w1 hS1 hJ1 => ?_) ?_
        · refine Eff.call (f := 47) (args := #[.agg #[.int .i64 (n : Int), .slice A G.length c], .slice Bs s.length cs, .int .i64 kind]) (by go_simp) ((Hdu.out w1 (hr1.below hS1) (hs1.below hS1)).mono ?_)
          rintro e w' ⟨A1, c1, xs, rfl, ho, hl, hfx, _, hb⟩
          exact ⟨_, rfl, hS1.trans (hb.mono hS1.size), ⟨A1, c1, rfl⟩, A1, c1, rfl, hJ1.1.below hb, (fun A c e => by injection e with e; injection e with e1 e2; subst e1 e2; exact ⟨xs, ownsRow_mono ho hS1.size, hl.mono hS1.size, hfx⟩), hJ1.2.2.below hb⟩
        rintro _ ⟨AD, cD, rfl⟩
        rw [show List.erase [5, 6, 8] 5 = [6, 8] from rfl]; simp only [Act.put, List.setIfInBounds_toArray, List.set_cons_zero, List.set_cons_succ]
        refine TxtT.weakJ (J2 := fun w' => ClC W1.heap.size s (some (AC, cC)) w' ∧ DuF W1.heap.size L (some (AD, cD)) w' ∧ BxC 28 #[.slice none 0 0, .slice none 0 0, .slice none 0 0] (some q) W1.heap.size w') (fun w1 h => by obtain ⟨x, y, hq, h⟩ := h; simp only [Value.slice.injEq, true_and] at hq; obtain ⟨hq1, hq2⟩ := hq; subst hq1; subst hq2; exact h) ?_
        refine TxtT.pure 6 (by rfl) (by rw [List.getElem?_toArray]; rfl) (by rfl) (by as_aux_lemma => kernel_rfl) (by rfl) ?_; apply Exists.intro; refine ⟨fun w1 hS1 => ?_, ?_⟩; (focus (skip; go_simp; with_reducible rfl))
        rw [show List.erase [6, 8] 6 = [8] from rfl]; simp only [Act.put, List.setIfInBounds_toArray, List.set_cons_zero, List.set_cons_succ]
        refine TxtT.one 8 (by as_aux_lemma => kernel_rfl) (by rw [List.getElem?_toArray]; rfl) (by rfl) (by rfl) (fun v => v = undef) (fun _ w' => StF W1.heap.size s L AC cC AD cD q w') (fun w1 hS1 hJ1 => ?_) ?_
        · obtain ⟨hq, hk4⟩ := hJ1.2.2 q rfl
          obtain ⟨xs, ho, hl, hfx⟩ := hJ1.2.1 AD cD rfl
          have hc := hJ1.1 AC cC rfl
          have z0 := hk4.frozen 0; have z1 := hk4.frozen 1; have z2 := hk4.frozen 2
          have y0 : w1.cell? ⟨q, 0, none⟩ = some (.slice none 0 0) := hk4.cell 0; have y1 : w1.cell? ⟨q, 1, none⟩ = some (.slice none 0 0) := hk4.cell 1; have y2 : w1.cell? ⟨q, 2, none⟩ = some (.slice none 0 0) := hk4.cell 2
          exact Eff.skip (w' := ((w1.setCell ⟨q, 0, none⟩ (.slice AC s.length cC)).setCell ⟨q, 1, none⟩ (.slice none 0 0)).setCell ⟨q, 2, none⟩ (.slice AD L.length cD)) (by go_simp) ⟨((hS1.setCell (p := ⟨q, 0, none⟩) hq _).setCell (p := ⟨q, 1, none⟩) hq _).setCell (p := ⟨q, 2, none⟩) hq _, rfl, stf_made hq hk4 hc ho hl hfx⟩
        rintro _ rfl
        rw [show List.erase [8] 8 = [] from rfl]; simp only [Act.put]
        refine ⟨rfl, fun w1 hS1 hJ1 => ?_⟩
        go_wp2_with fail
        go_meet
        exact ⟨q, AC, cC, AD, cD, rfl, hJ1, hS1⟩
    ·
      rintro _ ⟨q, rfl⟩
      rw [show List.erase [1, 5, 6, 7, 8] 7 = [1, 5, 6, 8] from rfl]; simp only [Act.put, List.setIfInBounds_toArray, List.set_cons_zero, List.set_cons_succ]
      refine TxtT.weakJ (J2 := fun w' => ClC W1.heap.size s none w' ∧ DuF W1.heap.size L none w' ∧ BxC 28 #[.slice none 0 0, .slice none 0 0, .slice none 0 0] (some q) W1.heap.size w') (fun w1 h => by obtain ⟨q', hq, h⟩ := h; injection hq with hq; injection hq with hq; injection hq with hq _ _; subst hq; exact h) ?_
      refine TxtT.one 1 (by as_aux_lemma => kernel_rfl) (by rw [List.getElem?_toArray]; rfl) (by rfl) (by rfl) (fun v => ∃ A c, v = Value.slice A s.length c) (fun v w' => ∃ AC cC, v = Value.slice AC s.length cC ∧ ClC W1.heap.size s (some (AC, cC)) w' ∧ DuF W1.heap.size L none w' ∧ BxC 28 #[.slice none 0 0, .slice none 0 0, .slice none 0 0] (some q) W1.heap.size w') (fun w1 hS1 hJ1 => ?_) ?_
      · refine eff_appIs (.const (.slice none 0 0)) (.tmp 35) (by rfl) w1 W1.heap.size (.slice none 0 0) [] Bs s cs (OwnI.nil _ _) (hs1.below hS1) Hsn.out (by rfl) (by rfl) (by simp; omega) hS1.size fun v' w' hown' hb hg => ?_
        rw [List.nil_append] at hown'
        obtain ⟨A1, c1, rfl⟩ := shapeI hown'
        have hb' : Below w1.heap.size w1 w' := ⟨hg.os, hg.tape, hg.output, hg.size, fun k hk => hg.block k hk (by simp [Value.ownBlock])⟩
        exact ⟨hS1.trans hb, ⟨A1, c1, rfl⟩, A1, c1, rfl, (fun A c e => by injection e with e; injection e with e1 e2; subst e1 e2; exact hown'), hJ1.2.1.below hb', hJ1.2.2.below hb'⟩
      rintro _ ⟨AC, cC, rfl⟩
      rw [show List.erase [1, 5, 6, 8] 1 = [5, 6, 8] from rfl]; simp only [Act.put, List.setIfInBounds_toArray, List.set_cons_zero, List.set_cons_succ]
      refine TxtT.weakJ (J2 := fun w' => ClC W1.heap.size s (some (AC, cC)) w' ∧ DuF W1.heap.size L none w' ∧ BxC 28 #[.slice none 0 0, .slice none 0 0, .slice none 0 0] (some q) W1.heap.size w') (fun w1 h => by obtain ⟨x, y, hq, h⟩ := h; simp only [Value.slice.injEq, true_and] at hq; obtain ⟨hq1, hq2⟩ := hq; subst hq1; subst hq2; exact h) ?_
      refine TxtT.one 5 (by as_aux_lemma => kernel_rfl) (by rw [List.getElem?_toArray]; rfl) (by rfl) (by rfl) (fun v => ∃ A c, v = Value.slice A L.length c) (fun v w' => ∃ AD cD, v = Value.slice AD L.length cD ∧ ClC W1.heap.size s (some (AC, cC)) w' ∧ DuF W1.heap.size L (some (AD, cD)) w' ∧ BxC 28 #[.slice none 0 0, .slice none 0 0, .slice none 0 0] (some q) W1.heap.size w') (fun w1 hS1 hJ1 => ?_) ?_
      · refine Eff.call (f := 47) (args := #[.agg #[.int .i64 (n : Int), .slice A G.length c], .slice Bs s.length cs, .int .i64 kind]) (by go_simp) ((Hdu.out w1 (hr1.below hS1) (hs1.below hS1)).mono ?_)
        rintro e w' ⟨A1, c1, xs, rfl, ho, hl, hfx, _, hb⟩
        exact ⟨_, rfl, hS1.trans (hb.mono hS1.size), ⟨A1, c1, rfl⟩, A1, c1, rfl, hJ1.1.below hb, (fun A c e => by injection e with e; injection e with e1 e2; subst e1 e2; exact ⟨xs, ownsRow_mono ho hS1.size, hl.mono hS1.size, hfx⟩), hJ1.2.2.below hb⟩
      rintro _ ⟨AD, cD, rfl⟩
      rw [show List.erase [5, 6, 8] 5 = [6, 8] from rfl]; simp only [Act.put, List.setIfInBounds_toArray, List.set_cons_zero, List.set_cons_succ]
      refine TxtT.weakJ (J2 := fun w' => ClC W1.heap.size s (some (AC, cC)) w' ∧ DuF W1.heap.size L (some (AD, cD)) w' ∧ BxC 28 #[.slice none 0 0, .slice none 0 0, .slice none 0 0] (some q) W1.heap.size w') (fun w1 h => by obtain ⟨x, y, hq, h⟩ := h; simp only [Value.slice.injEq, true_and] at hq; obtain ⟨hq1, hq2⟩ := hq; subst hq1; subst hq2; exact h) ?_
      refine TxtT.pure 6 (by rfl) (by rw [List.getElem?_toArray]; rfl) (by rfl) (by as_aux_lemma => kernel_rfl) (by rfl) ?_; apply Exists.intro; refine ⟨fun w1 hS1 => ?_, ?_⟩; (focus (skip; go_simp; with_reducible rfl))
      rw [show List.erase [6, 8] 6 = [8] from rfl]; simp only [Act.put, List.setIfInBounds_toArray, List.set_cons_zero, List.set_cons_succ]
      refine TxtT.one 8 (by as_aux_lemma => kernel_rfl) (by rw [List.getElem?_toArray]; rfl) (by rfl) (by rfl) (fun v => v = undef) (fun _ w' => StF W1.heap.size s L AC cC AD cD q w') (fun w1 hS1 hJ1 => ?_) ?_
      · obtain ⟨hq, hk4⟩ := hJ1.2.2 q rfl
        obtain ⟨xs, ho, hl, hfx⟩ := hJ1.2.1 AD cD rfl
        have hc := hJ1.1 AC cC rfl
        have z0 := hk4.frozen 0; have z1 := hk4.frozen 1; have z2 := hk4.frozen 2
        have y0 : w1.cell? ⟨q, 0, none⟩ = some (.slice none 0 0) := hk4.cell 0; have y1 : w1.cell? ⟨q, 1, none⟩ = some (.slice none 0 0) := hk4.cell 1; have y2 : w1.cell? ⟨q, 2, none⟩ = some (.slice none 0 0) := hk4.cell 2
        exact Eff.skip (w' := ((w1.setCell ⟨q, 0, none⟩ (.slice AC s.length cC)).setCell ⟨q, 1, none⟩ (.slice none 0 0)).setCell ⟨q, 2, none⟩ (.slice AD L.length cD)) (by go_simp) ⟨((hS1.setCell (p := ⟨q, 0, none⟩) hq _).setCell (p := ⟨q, 1, none⟩) hq _).setCell (p := ⟨q, 2, none⟩) hq _, rfl, stf_made hq hk4 hc ho hl hfx⟩
      rintro _ rfl
      rw [show List.erase [8] 8 = [] from rfl]; simp only [Act.put]
      refine ⟨rfl, fun w1 hS1 hJ1 => ?_⟩
      go_wp2_with fail
      go_meet
      exact ⟨q, AC, cC, AD, cD, rfl, hJ1, hS1⟩
  case rest =>
  obtain ⟨q, AC, cC, AD, cD, rfl, hst, hbc⟩ := hcut
  obtain ⟨W2, hW2⟩ : ∃ W2, W2 = wc := ⟨_, rfl⟩
  subst hW2
  obtain ⟨xs, hos, hol, hfx⟩ := hst.du
  have kq := hst.box
  have hcl := hst.cl
  have hq1 := hst.hq
  have Hos := Lib.hid hos; have Hol := Lib.hid hol; have Hcl := Lib.hid hcl; have Hfx := Lib.hid hfx
  have hqlt := kq.lt
  have hbw := endB hbb2 hbc
  clear hos hol hcl d0 d1 hr1 hs1 hfx
  go_wp2_with fail
  go_loopw [10] (fun i wr => ∃ (k : Nat) (v : Value), k ≤ L.length ∧ i = .int .i64 (k : Int) ∧ Blk wr q 28 #[.slice AC s.length cC, v, .slice AD L.length cD] ∧ OwnP wr W2.heap.size v ((L.take k).map (chgP (maskN s) s)) ∧ W2.grownBy wr (some q)) (fun i _ => L.length - (intOf i).toNat)
  case atStart => exact ⟨0, _, Nat.zero_le _, rfl, kq, OwnP.nil _ _, grownBy_refl _ _⟩
  case round =>
    obtain ⟨k, v, hk, rfl, kb, hown, hg⟩ := hrel
    have Hown := Lib.hid hown
    clear hown
    obtain ⟨f0, f1, f2, _, _⟩ := kb.threeE
    by_cases hlt : k < L.length
    case pos =>
      have hosr := World.ownsRow.kept Hos.out hg (.inr (own_apart Hos.out kq (by decide)))
      have holr := Hol.out.apartB kq (by decide) hg
      obtain ⟨A9, c9, e9, hrt, _⟩ := OwnTS.forms hosr holr
      simp only [Value.slice.injEq, true_and] at e9
      obtain ⟨e9a, e9b⟩ := e9
      subst e9a
      subst e9b
      have hbr := hbw.trans (below_of_grownBy hg (Nat.le_trans hbb2.size hq1) hbw.size)
      obtain ⟨b, o, A', c', hA, hcell, hrp⟩ := hrt k hlt
      subst hA
      obtain ⟨hs0, hl0, _⟩ := Hok.out L[k] (List.getElem_mem hlt)
      have hpk := Hpk.out L[k] (List.getElem_mem hlt)
      have hdl := Hdl.out L[k] (List.getElem_mem hlt)
      have hstep : (L.take (k + 1)).map (chgP (maskN s) s) = (L.take k).map (chgP (maskN s) s) ++ [chgP (maskN s) s L[k]] := by rw [List.take_succ_eq_append_getElem hlt, List.map_append]; rfl
      obtain ⟨d, hdd⟩ : ∃ d, L[k] = d := ⟨_, rfl⟩
      rw [hdd] at hcell hrp hl0 hpk hdl hstep
      rw [← hpk] at hstep
      have Hstep := Lib.hid hstep
      clear hdd hosr holr hrt hstep hpk
      have hl1 : 0 < d.length := List.length_pos_iff.2 hl0
      obtain ⟨b2, o2, rfl, hc, hd⟩ := hrp.at_ hl1
      obtain ⟨p, hp⟩ : ∃ p, d.headD (0, 0) = p := ⟨_, rfl⟩
      have hp0 : d[0] = p := by
        cases d with
        | nil => cases hl1
        | cons p r => exact hp
      have hst := Hstep.out
      rw [hp] at hst
      rw [hp0] at hc hd
      have Hstep := Lib.hid hst
      simp only [Nat.zero_mul, Nat.add_zero] at hc hd
      obtain ⟨W4, hW4, kp, hb4, hs4⟩ : ∃ W4, wr.alloc (.cells #[.int .i64 p.1, .int .i64 p.2] 42) = W4 ∧ Blk W4 wr.heap.size 42 #[.int .i64 p.1, .int .i64 p.2] ∧ Below wr.heap.size wr W4 ∧ W4.heap.size = wr.heap.size + 1 := ⟨_, rfl, Blk.new _ _ _, newB _ _, by simp⟩
      have hs0l : 0 < s.length := List.length_pos_iff.2 hs0
      obtain ⟨b3, o3, hB, hcs⟩ := (hs.below hbr).at_ hs0l
      subst hB
      obtain ⟨z, hz⟩ : ∃ z, s[0] = z := ⟨_, rfl⟩
      rw [hz, Nat.add_zero] at hcs
      have hhz : s.headD 0 = z := by
        cases s with
        | nil => cases hs0l
        | cons a r => exact hz
      have Hz := Lib.hid hhz
      have hl6 : ((L.take k).map (chgP (maskN s) s)).length ≤ 1000000 := by rw [List.length_map, List.length_take]; omega
      clear hhz hz hs0 hst hp hp0 hl0
      go_wp2_with fail
      have kp0 : Blk W4 wr.heap.size 42 #[.int .i64 (pkF s d.length p (d.take 0)).1, .int .i64 (pkF s d.length p (d.take 0)).2] := kp
      obtain ⟨wo, hwo⟩ : ∃ wo, wo = wr := ⟨_, rfl⟩
      subst hwo
      go_loopw [13] (fun i wr => ∃ j : Nat, j ≤ d.length ∧ i = .int .i64 (j : Int) ∧ Blk wr wo.heap.size 42 #[.int .i64 (pkF s d.length p (d.take j)).1, .int .i64 (pkF s d.length p (d.take j)).2] ∧ Below wo.heap.size wo wr) (fun i _ => d.length - (intOf i).toNat)
      case atStart => exact ⟨0, Nat.zero_le _, rfl, kp0, hb4⟩
      case round =>
        clear kp kp0 hb4 hs4 hW4
        obtain ⟨j, hj, rfl, kp, hb5⟩ := hrel
        have hb5w := hbr.trans (hb5.mono hbr.size)
        by_cases hjl : j < d.length
        case pos =>
          obtain ⟨b4, o4, hA4, hx, hy⟩ := (hrp.below hb5).at_ hjl
          injection hA4 with hA4; injection hA4 with hA5 hA6
          subst hA5; subst hA6
          have hcs5 := (hb5.cell (lt_of_cell hcs)).trans hcs
          have hstp : pkF s d.length p (d.take (j + 1)) = if pkQ s d.length d[j] = true then d[j] else pkF s d.length p (d.take j) := by rw [List.take_succ_eq_append_getElem hjl, pkF_snoc]
          obtain ⟨x, hxx⟩ : ∃ x, d[j] = x := ⟨_, rfl⟩
          rw [hxx] at hx hy hstp
          obtain ⟨y, hyy⟩ : ∃ y, pkF s d.length p (d.take j) = y := ⟨_, rfl⟩
          rw [hyy] at kp hstp
          have hin := fun W (hW : Below wr.heap.size wr W) => nwIn_any (some ⟨b3, o3, none⟩) s cs x.2 W ((hs.below hb5w).below hW) (by omega)
          obtain ⟨r, hrr⟩ : ∃ r, pkQ s d.length x = r := ⟨_, rfl⟩
          rw [hrr] at hstp
          unfold pkQ at hrr
          rw [Hz.out] at hrr
          have Hstp := Lib.hid hstp; have Hrr := Lib.hid hrr; have Hin := Lib.hid hin
          have hl1d : (1 : Int) < (d.length : Int) ∨ ¬ (1 : Int) < (d.length : Int) := Classical.em _
          clear hstp hrr hin hxx hyy
          go_upto_region 15 with fail
          go_cut [86] (fun v wx => v = .bool r ∧ wr.heap.size = wx.heap.size ∧ Below wr.heap.size wr wx)
          case first =>
            have hrr := Hrr.out
            by_cases h1 : 1 < d.length
            · rw [decide_eq_true h1, Bool.true_and] at hrr
              have hd1 : decide ((1 : Int) < (d.length : Int)) = true := decide_eq_true (by omega)
              by_cases h2 : x.1 = z
              · rw [decide_eq_true h2, Bool.true_and] at hrr
                have hd2 : (x.1 == z) = true := by simp [h2]
                have Hrr := Lib.hid hrr
                clear hrr h1 h2 hl1d
                refine wp_region_textB [21] (fun w' => w'.heap.size = wr.heap.size ∧ Below wr.heap.size wr w') (fun _ => True) (by kernel_rfl) (by kernel_rfl) (by kernel_rfl) ⟨rfl, (Below.refl _ _).drew⟩ trivial ?_
                repeat (first
                  | (refine TxtBL.skip (by rfl) ?_; simp only [Act.put, List.setIfInBounds_toArray, List.set_cons_zero, List.set_cons_succ])
                  | (refine TxtBL.take (by rfl) (by rfl) ?_; apply Exists.intro; refine ⟨fun w1 hS1 => ?_, ?_⟩; (focus ((have g0 := (hS1.2.cell (lt_of_cell hx)).trans hx; have g1 := (hS1.2.cell (lt_of_cell hy)).trans hy; have g2 := (hS1.2.cell (lt_of_cell hcs5)).trans hcs5); go_simp; with_reducible rfl)); simp only [Act.put, List.setIfInBounds_toArray, List.set_cons_zero, List.set_cons_succ])
                  | (refine TxtBL.takeE (by rfl) (by rfl) ?_; apply Exists.intro; refine ⟨fun w1 hS1 => ?_, ?_⟩; (focus ((have g0 := (hS1.2.cell (lt_of_cell hx)).trans hx; have g1 := (hS1.2.cell (lt_of_cell hy)).trans hy; have g2 := (hS1.2.cell (lt_of_cell hcs5)).trans hcs5); go_simp; with_reducible rfl)); simp only [Act.put, List.setIfInBounds_toArray, List.set_cons_zero, List.set_cons_succ]))
                refine TxtBL.call (f := 48) (args := #[.slice (some ⟨b3, o3, none⟩) s.length cs, .int .i64 x.2]) (fun u => u = .bool (inB s x.2)) (fun _ _ => True) (by rfl) (by rfl) ⟨_, rfl⟩ (fun w1 hS1 hJ1 => by go_simp) (fun w1 hS1 hJ1 => ?_) ?_
                · refine (Hin.out w1 hS1.2).mono ?_
                  rintro e w' ⟨rfl, rfl⟩
                  exact ⟨_, rfl, hS1, rfl, trivial⟩
                rintro _ rfl
                simp only [Act.put, List.setIfInBounds_toArray, List.set_cons_zero, List.set_cons_succ]
                repeat (first
                  | (refine TxtBL.skip (by rfl) ?_; simp only [Act.put, List.setIfInBounds_toArray, List.set_cons_zero, List.set_cons_succ])
                  | (refine TxtBL.take (by rfl) (by rfl) ?_; apply Exists.intro; refine ⟨fun w1 hS1 => ?_, ?_⟩; (focus (skip; go_simp; with_reducible rfl)); simp only [Act.put, List.setIfInBounds_toArray, List.set_cons_zero, List.set_cons_succ])
                  | (refine TxtBL.takeE (by rfl) (by rfl) ?_; apply Exists.intro; refine ⟨fun w1 hS1 => ?_, ?_⟩; (focus (skip; go_simp; with_reducible rfl)); simp only [Act.put, List.setIfInBounds_toArray, List.set_cons_zero, List.set_cons_succ]))
                refine TxtBL.nil (fun W5 hS5 _ => ?_)
                go_wp2_with fail
                go_meet
                exact ⟨by rw [← Hrr.out], hS5.1.symm, hS5.2⟩
              · rw [decide_eq_false h2, Bool.false_and] at hrr
                have hd2 : (x.1 == z) = false := by simp [h2]
                have Hrr := Lib.hid hrr
                clear hrr h1 h2 hl1d
                go_quiet (fail)
                go_wp2_with fail
                go_meet
                exact ⟨by rw [← Hrr.out], rfl, below_drewN (Below.refl _ _) nq⟩
            · rw [decide_eq_false h1, Bool.false_and] at hrr
              have hd1 : decide ((1 : Int) < (d.length : Int)) = false := decide_eq_false (by omega)
              have Hrr := Lib.hid hrr
              clear hrr h1 hl1d
              go_quiet (fail)
              go_wp2_with fail
              go_meet
              exact ⟨by rw [← Hrr.out], rfl, below_drewN (Below.refl _ _) nq⟩
          obtain ⟨rfl, _, hb6⟩ := hcut
          obtain ⟨W6, hW6⟩ : ∃ W6, W6 = wc := ⟨_, rfl⟩
          subst hW6
          have kp6 := kp.below hb6 kp.lt
          have hb56 := hb5.trans (hb6.mono hb5.size)
          have hx6 := (hb6.cell (lt_of_cell hx)).trans hx
          have hy6 := (hb6.cell (lt_of_cell hy)).trans hy
          clear hx hy hcs5 hl1d Hrr Hin
          cases r
          case false =>
            have hst := Hstp.out
            rw [if_neg (by decide)] at hst
            have Hst := Lib.hid hst
            clear hst
            go_wp2_with fail
            go_roundw
            case rel => exact ⟨j + 1, hjl, by go_num, by rw [Hst.out]; exact kp6, hb56⟩
            case measure => simp [intOf]; omega
          case true =>
            have hst := Hstp.out
            rw [if_pos rfl] at hst
            have Hst := Lib.hid hst
            clear hst
            obtain ⟨p0, p1, p2, p3⟩ := kp6.two
            have kpS := (kp6.set_ 0 (.int .i64 x.1)).set_ 1 (.int .i64 x.2)
            have hbS := (hb56.setCell (p := ⟨wo.heap.size, 0, none⟩) (Nat.le_refl _) (.int .i64 x.1)).setCell (p := ⟨wo.heap.size, 1, none⟩) (Nat.le_refl _) (.int .i64 x.2)
            have HS := Lib.hid (And.intro kpS hbS)
            clear kpS hbS
            go_wp2_with fail
            go_roundw
            case rel => exact ⟨j + 1, hjl, by go_num, by rw [Hst.out]; exact HS.out.1, HS.out.2⟩
            case measure => simp [intOf]; omega
        case neg =>
          obtain rfl : j = d.length := by omega
          rw [List.take_length] at kp
          obtain ⟨y, hyy⟩ : ∃ y, pkF s d.length p d = y := ⟨_, rfl⟩
          rw [hyy] at kp
          have hst := Hstep.out
          rw [hyy] at hst
          have Hst := Lib.hid hst
          clear hst hyy Hstep
          obtain ⟨X, hX⟩ : ∃ X, X = wr := ⟨_, rfl⟩
          subst hX
          have HownX := Lib.hid (ownsRow_below Hown.out hb5 : OwnP X W2.heap.size _ _)
          have kbX := kb.below hb5 kb.lt
          obtain ⟨g0, g1, g2, _, _⟩ := kbX.threeE
          obtain ⟨p0, p1, _, _⟩ := kp.two
          have hgX := hg.andThen (grownBy_of_below hb5 none) (fun j e => by cases e)
          have hDX : W2.heap.size ≤ X.heap.size := hgX.size
          have hlocX : ∀ j, v.ownBlock = some j → W2.heap.size ≤ j := fun j hj => (World.ownsRow.lt HownX.out j hj).1
          have HlocX := Lib.hid hlocX
          clear hlocX f0 f1 f2 kb hc hd hcell hrp hb5 hb5w
          go_wp2_with (at_builtin; go_loud (refine wpList_appP2 (by rfl) _ _ (by rfl) X W2.heap.size _ _ y.1 y.2 HownX.out (by rfl) (by rfl) (by omega) hl6 hDX ?_); intro v' w5 hown5 hb5 hg5; (obtain ⟨A5, n5, c5, rfl⟩ : ∃ A n c, v' = Value.slice A n c := by (obtain ⟨A, c, h, _⟩ := hown5.form; exact ⟨A, _, c, h⟩)); have kb5 := kbX.append HownX.out hg5 hqlt; (obtain ⟨m0, m1, m2, _, _⟩ := kb5.threeE); have Hown5 := Lib.hid hown5; clear hown5)
          go_roundw
          case rel => exact ⟨k + 1, .slice A5 n5 c5, hlt, by go_num, kb5.set_ 1 (.slice A5 n5 c5), by rw [Hst.out]; exact ownsRow_setCell_below Hown5.out (a := ⟨q, 1, none⟩) hqlt _, grownBy_trans (hgX.andThen hg5 (fun j hj => .inl (HlocX.out j hj))) (grownBy_setCell w5 q 1 _)⟩
          case measure => simp [intOf]; omega
    case neg =>
    obtain rfl : k = L.length := by omega
    have hown := Hown.out
    rw [List.take_length] at hown
    obtain ⟨C, hC⟩ : ∃ C, L.map (chgP (maskN s) s) = C := ⟨_, rfl⟩
    rw [hC] at hown
    have HC := Lib.hid hC
    clear hC
    obtain ⟨AH, cH, rfl, _, _⟩ := hown.form
    have hbr := hbw.trans (below_of_grownBy hg (Nat.le_trans hbb2.size hq1) hbw.size)
    have kE := (k12.below hbc k12.lt).grown hg (by have := k12.lt; simp; omega)
    obtain ⟨y0, y1, y2, _, _⟩ := kE.threeE
    have z0 := kE.frozen 0
    obtain ⟨W9, hW9, hbY, e0, e1, e2⟩ := en_put (.slice AC s.length cC) (.slice AH C.length cH) (.slice AD L.length cD) kE hbr
    have hg9 : wr.grownBy W9 (some (w.heap.size + 1)) := by rw [← hW9]; exact grownBy_trans (grownBy_trans (grownBy_setCell wr _ 0 _) (grownBy_setCell _ _ 1 _)) (grownBy_setCell _ _ 2 _)
    have hc9 := World.ownsRow.kept (World.ownsRow.kept Hcl.out hg (.inr (own_apart Hcl.out kq (by decide)))) hg9 (.inr (own_apart (World.ownsRow.kept Hcl.out hg (.inr (own_apart Hcl.out kq (by decide)))) kE (by decide)))
    have hosr := World.ownsRow.kept Hos.out hg (.inr (own_apart Hos.out kq (by decide)))
    have holr := Hol.out.apartB kq (by decide) hg
    have hos9 := World.ownsRow.kept hosr hg9 (.inr (own_apart hosr kE (by decide)))
    have hol9 := holr.apartB kE (by decide) hg9
    have hown9 := World.ownsRow.kept hown hg9 (.inr (own_apart hown kE (by decide)))
    have q1 : OwnI W9 w.heap.size (.slice AC s.length cC) s := ownsRow_mono hc9 hbb2.size
    have q2 : OwnP W9 w.heap.size (.slice AH C.length cH) C := ownsRow_mono hown9 hbw.size
    have q3 : OwnTS W9 w.heap.size (.slice AD L.length cD) xs := ownsRow_mono hos9 hbb2.size
    have q4 : OwnTL W9 w.heap.size xs L := hol9.mono hbb2.size
    have H9 := Lib.hid (And.intro q1 (And.intro q2 (And.intro q3 (And.intro q4 hbY))))
    rw [← hW9] at e0 e1 e2 H9
    clear q1 q2 q3 q4 hbY hc9 hosr holr hos9 hol9 hown9 hg9 hW9 hown kE
    go_wp2_with fail
    refine bodyPost_ret (v := .tuple #[.agg #[.slice AC s.length cC, .slice AH C.length cH, .slice AD L.length cD], .int .i64 0]) (by simp only [results, Tryd.results17]; simp [go_sem, e0, e1, e2]) rfl ?_
    have hCe : strC n G s kind = C := by unfold strC; rw [HL.out]; exact HC.out
    refine ⟨H9.out.2.2.2.2, .inr ⟨He.out, AC, cC, AH, cH, AD, cD, xs, ?_⟩⟩
    rw [Int.toNat_natCast, hCe, HL.out]
    exact ⟨rfl, H9.out.1, H9.out.2.1, H9.out.2.2.1, H9.out.2.2.2.1, Hfx.out⟩
end Go.Proofs.YtncimnfhfomddaaDoor

/- net.Light, ref21: before, Same. -/
namespace Go.Proofs.YtncimnfhfomddaaDoor
open Go.ChangeShapes Go.WideShapes Go.ChangeAt Go.RowKit

set_option maxHeartbeats 1000000 in
theorem nwLight_any (A : Option Addr) (N : Int) (l : List (Int × Int)) (c : Nat) (w : World) :
    Calls Tryd.prog 11 #[.agg #[.int .i64 N, .slice A l.length c]] w (RetB (.bool (decide (l.length ≤ 300))) w) := by
  go_enter Tryd.func11, Tryd.ntmps11
  go_upto_region 1 with fail
  obtain ⟨W0, hW, c0, c1, hb0, hlt0⟩ := boxed w 24 (.int .i64 N) (.slice A l.length c)
  rw [hW]
  clear hW
  by_cases h : l.length ≤ 300
  · have hd : decide (((l.length : Nat) : Int) ≤ 300) = true := by simp; omega
    have Hh := Lib.hid h
    clear h
    go_wp2_with fail
    go_ret
    exact ⟨rb (by rw [decide_eq_true Hh.out]), hb0⟩
  · have hd : decide (((l.length : Nat) : Int) ≤ 300) = false := by simp; omega
    have Hh := Lib.hid h
    clear h
    go_wp2_with fail
    go_ret
    exact ⟨rb (by rw [decide_eq_false Hh.out]), hb0⟩
end Go.Proofs.YtncimnfhfomddaaDoor

/- ref21.Toggle. -/
namespace Go.Proofs.YtncimnfhfomddaaDoor
open Go.ChangeShapes Go.WideShapes Go.ChangeAt Go.RowKit

/-- Toggle's answer -/
def RetTh (N : Int) (G L : List (Int × Int)) (w : World) : Ending → World → Prop := fun e w' => ∃ A c, e = .returned (.tuple #[.agg #[.int .i64 (tgN N G L), .slice A (tgG N G L).length c], .int .i64 (tgErr N G L)]) ∧
  RP w' A (tgG N G L) ∧ (A = none → tgG N G L = [] ∧ c = 0) ∧ (tgG N G L).length ≤ c ∧ Below w.heap.size w w'
theorem th_end {N : Int} {G L : List (Int × Int)} {w X : World} {er : Int} (hk : Blk X (w.heap.size + 1) 24 #[.int .i64 0, .slice none 0 0]) (hb : Below w.heap.size w X) (he : tgErr N G L = er) (h0 : er ≠ 0) :
    RetTh N G L w (.returned (.tuple #[.agg #[.int .i64 0, .slice none 0 0], .int .i64 er])) ((X.setCell ⟨w.heap.size + 1, 0, none⟩ (.int .i64 0)).setCell ⟨w.heap.size + 1, 1, none⟩ (.slice none 0 0)) ∧
    ((X.setCell ⟨w.heap.size + 1, 0, none⟩ (.int .i64 0)).setCell ⟨w.heap.size + 1, 1, none⟩ (.slice none 0 0)).cell? ⟨w.heap.size + 1, 0, none⟩ = some (.int .i64 0) ∧
    ((X.setCell ⟨w.heap.size + 1, 0, none⟩ (.int .i64 0)).setCell ⟨w.heap.size + 1, 1, none⟩ (.slice none 0 0)).cell? ⟨w.heap.size + 1, 1, none⟩ = some (.slice none 0 0) := by
  have k := (hk.set_ 0 (.int .i64 0)).set_ 1 (.slice none 0 0)
  obtain ⟨c0, c1, _, _⟩ := k.two
  refine ⟨⟨none, 0, ?_, ?_, fun _ => ⟨?_, rfl⟩, ?_, ?_⟩, c0, c1⟩
  · unfold tgN tgG; rw [he, if_neg h0, if_neg h0]; rfl
  · unfold tgG; rw [he, if_neg h0]; exact RP.nil _ _
  · unfold tgG; rw [he, if_neg h0]
  · unfold tgG; rw [he, if_neg h0]; exact Nat.le_refl _
  · exact (hb.setCell (p := ⟨w.heap.size + 1, 0, none⟩) (Nat.le_succ _) _).setCell (p := ⟨w.heap.size + 1, 1, none⟩) (Nat.le_succ _) _
/-- a list of pairs is never in a graph's box -/
theorem RP.apartG {w : World} {A : Option Addr} {l : List (Int × Int)} {q : Nat} {t : TypeId} {x v : Value} (h : RP w A l) (k : Blk w q t #[x, v]) (hv : ∀ k i, v ≠ .int k i) : ∀ b o, A = some ⟨b, o, none⟩ → 0 < l.length → b ≠ q := fun b o hA hl e => by
  subst e
  obtain ⟨b', o', hA', h1, h2⟩ := h 0 hl
  rw [hA] at hA'
  injection hA' with hA'; injection hA' with hA1 hA2; subst hA1; subst hA2
  rw [k.cell] at h1 h2
  have h3 : o + 0 * 2 + 1 < 2 := by
    have := (Array.getElem?_eq_some_iff.1 h2).1
    simpa using this
  have h4 : o + 0 * 2 + 1 = 1 := by omega
  rw [h4] at h2
  have h5 : some v = some (Value.int .i64 (l.getD 0 (0, 0)).2) := h2
  injection h5 with h5
  exact hv _ _ h5
theorem th_ret {N : Int} {G L : List (Int × Int)} {w X : World} {A2 : Option Addr} {ln c2 : Nat} (hk : Blk X (w.heap.size + 1) 24 #[.int .i64 0, .slice none 0 0]) (hb : Below w.heap.size w X) (hp : RP X A2 (tgL G L)) (hf : (A2 = none → tgL G L = [] ∧ c2 = 0) ∧ (tgL G L).length ≤ c2)
    (he : tgErr N G L = 0) (hn : ln = (tgL G L).length) :
    RetTh N G L w (.returned (.tuple #[.agg #[.int .i64 N, .slice A2 ln c2], .int .i64 0])) ((X.setCell ⟨w.heap.size + 1, 0, none⟩ (.int .i64 N)).setCell ⟨w.heap.size + 1, 1, none⟩ (.slice A2 ln c2)) ∧
    ((X.setCell ⟨w.heap.size + 1, 0, none⟩ (.int .i64 N)).setCell ⟨w.heap.size + 1, 1, none⟩ (.slice A2 ln c2)).cell? ⟨w.heap.size + 1, 0, none⟩ = some (.int .i64 N) ∧
    ((X.setCell ⟨w.heap.size + 1, 0, none⟩ (.int .i64 N)).setCell ⟨w.heap.size + 1, 1, none⟩ (.slice A2 ln c2)).cell? ⟨w.heap.size + 1, 1, none⟩ = some (.slice A2 ln c2) := by
  subst hn
  have k := (hk.set_ 0 (.int .i64 N)).set_ 1 (.slice A2 (tgL G L).length c2)
  obtain ⟨c0, c1, _, _⟩ := k.two
  refine ⟨⟨A2, c2, ?_, ?_, ?_, ?_, ?_⟩, c0, c1⟩
  · unfold tgN tgG; rw [he, if_pos rfl, if_pos rfl]
  · unfold tgG; rw [he, if_pos rfl]; exact hp.far2 (hp.apartG hk (fun _ _ e => by cases e)) _ _
  · unfold tgG; rw [he, if_pos rfl]; exact hf.1
  · unfold tgG; rw [he, if_pos rfl]; exact hf.2
  · exact (hb.setCell (p := ⟨w.heap.size + 1, 0, none⟩) (Nat.le_succ _) _).setCell (p := ⟨w.heap.size + 1, 1, none⟩) (Nat.le_succ _) _
theorem togsR_step {G L : List (Int × Int)} {k : Nat} (h : k < L.length) : togsR G (L.take (k + 1)) = togR (togsR G (L.take k)) L[k] := by
  rw [List.take_succ_eq_append_getElem h]
  unfold togsR
  rw [List.foldl_append]; rfl
def okB (n : Nat) (p : Int × Int) : Bool := decide (0 ≤ p.1) && decide (p.1 < n) && decide (0 ≤ p.2) && decide (p.2 < n)
theorem okB_iff {n : Nat} {p : Int × Int} : okB n p = true ↔ okP n p := by unfold okB okP; simp only [Bool.and_eq_true, decide_eq_true_iff, and_assoc]
theorem okB_no {n : Nat} {p : Int × Int} (h : okB n p = false) : ¬ okP n p := fun e => by rw [okB_iff.2 e] at h; cases h
set_option maxRecDepth 100000 in
set_option maxHeartbeats 4000000 in
theorem rToggle_any (A A2 : Option Addr) (N : Int) (G L : List (Int × Int)) (c c2 : Nat) (w : World) (hr : RP w A G) (hr2 : RP w A2 L) (hl : G.length + L.length ≤ 100000) (hA : A = none → G = [] ∧ c = 0) (hc : G.length ≤ c) (hc2 : L.length ≤ c2) :
    Calls Tryd.prog 26 #[.agg #[.int .i64 N, .slice A G.length c], .slice A2 L.length c2] w (RetTh N G L w) := by
  have HA := Lib.hid hA
  clear hA
  go_enter Tryd.func26, Tryd.ntmps26
  go_wp2_with fail
  obtain ⟨W0, hW, k0, k1, hb0, hlt0⟩ := boxed2 w 24 24 (.int .i64 N) (.slice A G.length c) (.int .i64 0) (.slice none 0 0)
  rw [hW]
  have hr0 := hr.below hb0
  clear hW
  refine (r10Validate_any _ _ _ _ _ hr0 (by omega)).mono ?_
  rintro e w1 ⟨rfl, hb⟩
  have j0 := k0.below hb k0.lt
  have j1 := k1.below hb k1.lt
  have hbb := endB hb0 hb
  clear k0 k1 hb0 hb hr0
  by_cases hv0 : valE N G = 0
  case neg =>
    obtain ⟨b0, b1, b2, b3⟩ := j1.two
    have hd : (valE N G != 0) = true := by simp [hv0]
    obtain ⟨h1, e0, e1⟩ := th_end (N := N) (G := G) (L := L) j1 hbb (by unfold tgErr; rw [if_neg hv0]) hv0
    have H1 := Lib.hid h1
    clear h1
    go_wp2_with fail
    refine bodyPost_ret (v := .tuple #[.agg #[.int .i64 0, .slice none 0 0], .int .i64 (valE N G)]) (by simp [results, Tryd.results26, go_sem] at e0 e1 ⊢; simp [e0, e1]) rfl ?_
    exact H1.out
  have hd : (valE N G != 0) = false := by simp [hv0]
  obtain ⟨n, rfl, hv⟩ := vld_of_valE hv0 (by omega)
  have Hv := Lib.hid hv
  have Hv0 := Lib.hid hv0
  clear hv hv0
  go_wp2_with fail
  go_loopw [7] (fun i wr => ∃ k : Nat, k ≤ L.length ∧ i = .int .i64 k ∧ (∀ p ∈ L.take k, okP n p) ∧ Blk wr w.heap.size 24 #[.int .i64 (n : Int), .slice A G.length c] ∧ Blk wr (w.heap.size + 1) 24 #[.int .i64 0, .slice none 0 0] ∧ Below w.heap.size w wr) (fun i _ => L.length - (intOf i).toNat)
  case atStart => exact ⟨0, Nat.zero_le _, rfl, (fun _ h => by simp at h), j0, j1, hbb⟩
  case round =>
    clear j0 j1 hbb
    obtain ⟨k, hk, rfl, hok, k0, k1, hbw⟩ := hrel
    have Hok := Lib.hid hok
    clear hok
    by_cases hlt : k < L.length
    case pos =>
      obtain ⟨b, o, rfl, hc1, hd2⟩ := (hr2.below hbw).at_ hlt
      obtain ⟨c0, c1, _, _⟩ := k0.two
      go_upto_region 7 with fail
      go_cut [55] (fun v wx => v = .bool (!okB n L[k]) ∧ Blk wx w.heap.size 24 #[.int .i64 (n : Int), .slice A G.length c] ∧ Blk wx (w.heap.size + 1) 24 #[.int .i64 0, .slice none 0 0] ∧ Below w.heap.size w wx)
      case first =>
        obtain ⟨r, hrr⟩ : ∃ r, okB n L[k] = r := ⟨_, rfl⟩
        have HR := Lib.hid hrr
        unfold okB at hrr
        by_cases t1 : L[k].1 < 0
        · have d1 : decide (L[k].1 < 0) = true := decide_eq_true t1
          rw [decide_eq_false (show ¬ 0 ≤ L[k].1 by omega)] at hrr
          simp only [Bool.false_and] at hrr
          subst hrr
          clear t1
          go_quiet (fail)
          go_wp2_with fail
          go_meet
          exact ⟨by rw [HR.out]; rfl, k0, k1, below_drewN hbw nq⟩
        have d1 : decide (L[k].1 < 0) = false := decide_eq_false t1
        rw [decide_eq_true (show 0 ≤ L[k].1 by omega), Bool.true_and] at hrr
        clear t1
        by_cases t2 : (n : Int) ≤ L[k].1
        · have d2 : decide ((n : Int) ≤ L[k].1) = true := decide_eq_true t2
          rw [decide_eq_false (show ¬ L[k].1 < (n : Int) by omega)] at hrr
          simp only [Bool.false_and] at hrr
          subst hrr
          clear t2
          go_quiet (fail)
          go_wp2_with fail
          go_meet
          exact ⟨by rw [HR.out]; rfl, k0, k1, below_drewN hbw nq⟩
        have d2 : decide ((n : Int) ≤ L[k].1) = false := decide_eq_false t2
        rw [decide_eq_true (show L[k].1 < (n : Int) by omega), Bool.true_and] at hrr
        clear t2
        by_cases t3 : L[k].2 < 0
        · have d3 : decide (L[k].2 < 0) = true := decide_eq_true t3
          rw [decide_eq_false (show ¬ 0 ≤ L[k].2 by omega)] at hrr
          simp only [Bool.false_and] at hrr
          subst hrr
          clear t3
          go_quiet (fail)
          go_wp2_with fail
          go_meet
          exact ⟨by rw [HR.out]; rfl, k0, k1, below_drewN hbw nq⟩
        have d3 : decide (L[k].2 < 0) = false := decide_eq_false t3
        rw [decide_eq_true (show 0 ≤ L[k].2 by omega), Bool.true_and] at hrr
        clear t3
        have d4 : decide ((n : Int) ≤ L[k].2) = !r := by
          rw [← hrr]
          by_cases t4 : (n : Int) ≤ L[k].2
          · rw [decide_eq_true t4, decide_eq_false (show ¬ L[k].2 < (n : Int) by omega)]; rfl
          · rw [decide_eq_false t4, decide_eq_true (show L[k].2 < (n : Int) by omega)]; rfl
        clear hrr
        go_quiet (fail)
        go_wp2_with fail
        go_meet
        exact ⟨by rw [HR.out], k0, k1, below_drewN hbw nq⟩
      obtain ⟨rfl, k0, k1, hbw⟩ := hcut
      clear c0 c1 hc1 hd2
      cases hob : okB n L[k]
      case false =>
        have her : tgErr n G L = 1 := by unfold tgErr; rw [if_pos Hv0.out]; exact tgE_one hlt (okB_no hob)
        obtain ⟨h1, f0, f1⟩ := th_end (N := n) (G := G) (L := L) k1 hbw her (by omega)
        have H1 := Lib.hid h1
        clear h1 her hob
        obtain ⟨b0, b1, b2, b3⟩ := k1.two
        go_wp2_with fail
        refine bodyPost_ret (v := .tuple #[.agg #[.int .i64 0, .slice none 0 0], .int .i64 1]) (by simp [results, Tryd.results26, go_sem] at f0 f1 ⊢; simp [f0, f1]) rfl ?_
        exact H1.out
      case true =>
        have hok' : ∀ p ∈ L.take (k + 1), okP n p := fun p hp => by
          rcases (mem_take_succ hlt p).1 hp with rfl | hp
          · exact okB_iff.1 hob
          · exact Hok.out p hp
        have Hok' := Lib.hid hok'
        clear hok' hob
        go_wp2_with fail
        go_roundw
        case rel => exact ⟨k + 1, hlt, by go_num, Hok'.out, k0, k1, hbw⟩
        case measure => simp [intOf]; omega
    case neg =>
    obtain rfl : k = L.length := by omega
    have hok := Hok.out
    rw [List.take_length] at hok
    have Hok := Lib.hid hok
    clear hok hk
    go_wp2_with fail
    go_loopw [8] (fun i wr => ∃ k : Nat, k ≤ L.length ∧ i = .int .i64 k ∧ (L.take k).Nodup ∧ Blk wr w.heap.size 24 #[.int .i64 (n : Int), .slice A G.length c] ∧ Blk wr (w.heap.size + 1) 24 #[.int .i64 0, .slice none 0 0] ∧ Below w.heap.size w wr) (fun i _ => L.length - (intOf i).toNat)
    case atStart => exact ⟨0, Nat.zero_le _, rfl, by simp, k0, k1, hbw⟩
    case round =>
      clear k0 k1 hbw hlt
      obtain ⟨k, hk, rfl, hnd, k0, k1, hbw⟩ := hrel
      have Hnd := Lib.hid hnd
      clear hnd
      by_cases hlt : k < L.length
      case pos =>
        obtain ⟨b, o, rfl, hc1, hd2⟩ := (hr2.below hbw).at_ hlt
        obtain ⟨b0, b1, b2, b3⟩ := k1.two
        have hsl := run_preP (some ⟨b, o, none⟩) L.length c2 k (by omega)
        have hin : ∀ r, hasB (L.take k) L[k].1 L[k].2 = r → (r = true → tgErr n G L = 5) ∧ (r = false → (L.take (k + 1)).Nodup) := fun r hrr => by
          refine ⟨fun e => ?_, fun e => ?_⟩
          · rw [e] at hrr
            unfold tgErr; rw [if_pos Hv0.out]; exact tgE_five Hok.out hlt (hasB_iff.1 hrr)
          · rw [e] at hrr
            exact nodup_take hlt Hnd.out (hasB_false.1 hrr)
        have hpr := (hr2.below hbw).take k
        have hTl : (L.take k).length = k := by rw [List.length_take]; omega
        obtain ⟨T, hT⟩ : ∃ T, L.take k = T := ⟨_, rfl⟩
        obtain ⟨x, hx⟩ : ∃ x, L[k] = x := ⟨_, rfl⟩
        rw [hT] at hpr hTl
        rw [hT, hx] at hin
        rw [hx] at hc1 hd2
        have hhas := fun W (hW : Below wr.heap.size wr W) => rHas_any (some ⟨b, o, none⟩) T c2 x.1 x.2 W (hpr.below hW) (by omega)
        obtain ⟨r, hrr⟩ : ∃ r, hasB T x.1 x.2 = r := ⟨_, rfl⟩
        obtain ⟨hr5, hr6⟩ := hin r hrr
        rw [hrr, hTl] at hhas
        have Hhas := Lib.hid hhas; have Hr5 := Lib.hid hr5; have Hr6 := Lib.hid hr6
        clear hhas hin hr5 hr6 hpr hTl hT hx hrr
        go_upto_region 12 with fail
        go_cut [70] (fun v wx => v = .bool r ∧ Below wr.heap.size wr wx)
        case first =>
          refine wp_region_textB [7] (fun w' => Below wr.heap.size wr w') (fun _ => True) (by kernel_rfl) (by kernel_rfl) (by kernel_rfl) (Below.refl _ _).drew trivial ?_
          repeat (first
            | (refine TxtBL.skip (by rfl) ?_; simp only [Act.put, List.setIfInBounds_toArray, List.set_cons_zero, List.set_cons_succ])
            | (refine TxtBL.take (by rfl) (by rfl) ?_; apply Exists.intro; refine ⟨fun w1 hS1 => ?_, ?_⟩; (focus ((have g0 := (hS1.cell (lt_of_cell hc1)).trans hc1; have g1 := (hS1.cell (lt_of_cell hd2)).trans hd2); go_simp; with_reducible rfl)); simp only [Act.put, List.setIfInBounds_toArray, List.set_cons_zero, List.set_cons_succ])
            | (refine TxtBL.takeE (by rfl) (by rfl) ?_; apply Exists.intro; refine ⟨fun w1 hS1 => ?_, ?_⟩; (focus ((have g0 := (hS1.cell (lt_of_cell hc1)).trans hc1; have g1 := (hS1.cell (lt_of_cell hd2)).trans hd2); go_simp; with_reducible rfl)); simp only [Act.put, List.setIfInBounds_toArray, List.set_cons_zero, List.set_cons_succ]))
          refine TxtBL.call (f := 23) (args := #[.slice (some ⟨b, o, none⟩) k c2, .agg #[.int .i64 x.1, .int .i64 x.2]]) (fun u => u = .bool r) (fun _ _ => True) (by rfl) (by rfl) ⟨_, rfl⟩ (fun w1 hS1 hJ1 => by go_simp) (fun w1 hS1 hJ1 => ?_) ?_
          · refine (Hhas.out w1 hS1).mono ?_
            rintro e w' ⟨rfl, hb⟩
            exact ⟨_, rfl, hS1.trans (hb.mono hS1.size), rfl, trivial⟩
          rintro _ rfl
          simp only [Act.put, List.setIfInBounds_toArray, List.set_cons_zero, List.set_cons_succ]
          repeat (first
            | (refine TxtBL.skip (by rfl) ?_; simp only [Act.put, List.setIfInBounds_toArray, List.set_cons_zero, List.set_cons_succ])
            | (refine TxtBL.take (by rfl) (by rfl) ?_; apply Exists.intro; refine ⟨fun w1 hS1 => ?_, ?_⟩; (focus (skip; go_simp; with_reducible rfl)); simp only [Act.put, List.setIfInBounds_toArray, List.set_cons_zero, List.set_cons_succ])
            | (refine TxtBL.takeE (by rfl) (by rfl) ?_; apply Exists.intro; refine ⟨fun w1 hS1 => ?_, ?_⟩; (focus (skip; go_simp; with_reducible rfl)); simp only [Act.put, List.setIfInBounds_toArray, List.set_cons_zero, List.set_cons_succ]))
          refine TxtBL.nil (fun W2 hS2 _ => ?_)
          go_wp2_with fail
          go_meet
          exact ⟨rfl, hS2⟩
        obtain ⟨rfl, hb2⟩ := hcut
        have k02 := k0.below hb2 k0.lt
        have k12 := k1.below hb2 k1.lt
        have hbw2 := endB hbw hb2
        clear k0 k1 hbw hc1 hd2 hsl b0 b1 b2 b3 hb2
        obtain ⟨b0, b1, b2, b3⟩ := k12.two
        cases r
        case true =>
          obtain ⟨h1, f0, f1⟩ := th_end (N := n) (G := G) (L := L) k12 hbw2 (Hr5.out rfl) (by omega)
          have H1 := Lib.hid h1
          clear h1
          go_wp2_with fail
          refine bodyPost_ret (v := .tuple #[.agg #[.int .i64 0, .slice none 0 0], .int .i64 5]) (by simp [results, Tryd.results26, go_sem] at f0 f1 ⊢; simp [f0, f1]) rfl ?_
          exact H1.out
        case false =>
          have Hnd' := Lib.hid (Hr6.out rfl)
          go_wp2_with fail
          go_roundw
          case rel => exact ⟨k + 1, hlt, by go_num, Hnd'.out, k02, k12, hbw2⟩
          case measure => simp [intOf]; omega
      case neg =>
      obtain rfl : k = L.length := by omega
      have hnd := Hnd.out
      rw [List.take_length] at hnd
      have Hnd := Lib.hid hnd
      clear hnd hk
      go_wp2_with fail
      go_loopw [9] (fun i wr => ∃ (k : Nat) (AG : Option Addr) (cG : Nat), k ≤ L.length ∧ i = .int .i64 k ∧ Blk wr w.heap.size 24 #[.int .i64 (n : Int), .slice AG (togsR G (L.take k)).length cG] ∧ RP wr AG (togsR G (L.take k)) ∧ (AG = none → togsR G (L.take k) = [] ∧ cG = 0) ∧ (togsR G (L.take k)).length ≤ cG ∧ Blk wr (w.heap.size + 1) 24 #[.int .i64 0, .slice none 0 0] ∧ Below w.heap.size w wr) (fun i _ => L.length - (intOf i).toNat)
      case atStart => exact ⟨0, A, c, Nat.zero_le _, rfl, k0, hr.below hbw, HA.out, hc, k1, hbw⟩
      case round =>
        clear k0 k1 hbw hlt
        obtain ⟨k, AG, cG, hk, rfl, k0, hrg, hfg, hcg, k1, hbw⟩ := hrel
        have hgl := togsR_len G (L.take k)
        rw [List.length_take] at hgl
        by_cases hlt : k < L.length
        case pos =>
          obtain ⟨b, o, rfl, hc1, hd2⟩ := (hr2.below hbw).at_ hlt
          have hstp := togsR_step (G := G) hlt
          obtain ⟨H, hH⟩ : ∃ H, togsR G (L.take k) = H := ⟨_, rfl⟩
          obtain ⟨x, hx⟩ : ∃ x, L[k] = x := ⟨_, rfl⟩
          rw [hH, hx] at hstp
          rw [hx] at hc1 hd2
          have hk0H := k0
          rw [hH] at hk0H hrg hfg hcg hgl
          obtain ⟨nH, hnH⟩ : ∃ nH, (togsR G (L.take k)).length = nH := ⟨_, rfl⟩
          have hnH' : nH = H.length := by rw [← hnH, hH]
          have htg := fun W (hW : Below wr.heap.size wr W) => rTog_any AG (n : Int) H cG x W (hrg.below hW) (by omega) hfg hcg
          have hapq := hrg.apartG hk0H (fun _ _ e => by cases e)
          rw [← hnH'] at htg hk0H
          have Htg := Lib.hid htg; have Hstp := Lib.hid hstp
          clear htg hstp hH hx hnH hnH' hrg hfg hcg hgl k0 hapq
          obtain ⟨c0, c1, c2', c3'⟩ := hk0H.two
          go_upto_region 17 with fail
          refine wp_region_textZ [5, 6] (fun w' => Below wr.heap.size wr w') (fun _ => True) (by kernel_rfl) (by kernel_rfl) (by kernel_rfl) (by kernel_rfl) (Below.refl _ _).drew trivial ?_
          repeat (first
            | (refine TxtZL.skip (by rfl) ?_; simp only [Act.put, List.setIfInBounds_toArray, List.set_cons_zero, List.set_cons_succ])
            | (refine TxtZL.take (by rfl) (by rfl) ?_; apply Exists.intro; refine ⟨fun w1 hS1 => ?_, ?_⟩; (focus ((have g0 := (hS1.cell (lt_of_cell hc1)).trans hc1; have g1 := (hS1.cell (lt_of_cell hd2)).trans hd2; have g2 := (hS1.cell (lt_of_cell c0)).trans c0; have g3 := (hS1.cell (lt_of_cell c1)).trans c1); go_simp; with_reducible rfl)); simp only [Act.put, List.setIfInBounds_toArray, List.set_cons_zero, List.set_cons_succ])
            | (refine TxtZL.takeE' (by rfl) (by rfl) ?_; apply Exists.intro; refine ⟨fun w1 hS1 => ?_, ?_⟩; (focus ((have g0 := (hS1.cell (lt_of_cell hc1)).trans hc1; have g1 := (hS1.cell (lt_of_cell hd2)).trans hd2; have g2 := (hS1.cell (lt_of_cell c0)).trans c0; have g3 := (hS1.cell (lt_of_cell c1)).trans c1); go_simp; with_reducible rfl)); simp only [Act.put, List.setIfInBounds_toArray, List.set_cons_zero, List.set_cons_succ]))
          refine TxtZL.call (f := 59) (args := #[.agg #[.int .i64 (n : Int), .slice AG nH cG], .agg #[.int .i64 x.1, .int .i64 x.2]]) (fun u => ∃ A' nZ c', u = Value.agg #[.int .i64 (n : Int), .slice A' nZ c']) (fun u w' => ∃ A' c', u = Value.agg #[.int .i64 (n : Int), .slice A' (togR H x).length c'] ∧ RP w' A' (togR H x) ∧ (A' = none → togR H x = [] ∧ c' = 0) ∧ (togR H x).length ≤ c') (by rfl) (by rfl) ⟨_, none, 0, 0, rfl⟩ (fun w1 hS1 hJ1 => by go_simp) (fun w1 hS1 hJ1 => ?_) ?_
          · refine (Htg.out w1 hS1).mono ?_
            rintro e w' ⟨A', c', rfl, h1, h2, h3, hb⟩
            exact ⟨_, rfl, hS1.trans (hb.mono hS1.size), ⟨A', _, c', rfl⟩, A', c', rfl, h1, h2, h3⟩
          rintro _ ⟨A', nZ, c', rfl⟩
          simp only [Act.put, List.setIfInBounds_toArray, List.set_cons_zero, List.set_cons_succ]
          refine TxtZL.last (fun w' => nZ = (togR H x).length ∧ RP w' A' (togR H x) ∧ (A' = none → togR H x = [] ∧ c' = 0) ∧ (togR H x).length ≤ c' ∧ Blk w' w.heap.size 24 #[.int .i64 (n : Int), .slice A' nZ c'] ∧ Blk w' (w.heap.size + 1) 24 #[.int .i64 0, .slice none 0 0] ∧ Below w.heap.size w w') (by rfl) (by rfl) (fun w4 hS4 hJ4 => ?_) ?_
          · obtain ⟨A9, c9, e9, h1, h2, h3⟩ := hJ4
            simp only [Value.agg.injEq, Array.mk.injEq, List.cons.injEq, Value.slice.injEq, true_and, and_true] at e9
            obtain ⟨e9a, e9b, e9c⟩ := e9
            subst e9a; subst e9c
            have j0 := hk0H.below hS4 hk0H.lt
            have j1 := k1.below hS4 k1.lt
            obtain ⟨g0, g1, g2, g3⟩ := j0.two
            exact Eff.skip (w' := (w4.setCell ⟨w.heap.size, 0, none⟩ (.int .i64 (n : Int))).setCell ⟨w.heap.size, 1, none⟩ (.slice A' nZ c')) (by go_simp) ⟨e9b, h1.far2 (h1.apartG j0 (fun _ _ e => by cases e)) _ _, h2, h3, (j0.set_ 0 _).set_ 1 _, (j1.far (p := ⟨w.heap.size, 0, none⟩) (by simp) _).far (p := ⟨w.heap.size, 1, none⟩) (by simp) _,
              ((endB hbw hS4).setCell (p := ⟨w.heap.size, 0, none⟩) (Nat.le_refl _) _).setCell (p := ⟨w.heap.size, 1, none⟩) (Nat.le_refl _) _⟩
          rintro u2 w5 ⟨e5, h1, h2, h3, j0, j1, hb5⟩
          simp only [Act.put]
          rw [← Hstp.out] at e5 h1 h2 h3
          rw [e5] at j0
          have H5 := Lib.hid (And.intro j0 (And.intro h1 (And.intro h2 h3)))
          clear j0 h1 h2 h3 e5 c0 c1 c2' c3' hc1 hd2
          go_wp2_with fail
          go_roundw
          case rel => exact ⟨k + 1, A', c', hlt, by go_num, H5.out.1, H5.out.2.1, H5.out.2.2.1, H5.out.2.2.2, j1, hb5⟩
          case measure => simp [intOf]; omega
        case neg =>
          obtain rfl : k = L.length := by omega
          have heq : togsR G (L.take L.length) = tgL G L := by rw [List.take_length]; exact togsR_tgL Hv.out.2 Hnd.out
          obtain ⟨nH, hnH⟩ : ∃ nH, (togsR G (L.take L.length)).length = nH := ⟨_, rfl⟩
          have hnT : nH = (tgL G L).length := by rw [← hnH, heq]
          have her : tgErr n G L = 0 := by unfold tgErr; rw [if_pos Hv0.out]; exact tgE_ok Hok.out Hnd.out
          obtain ⟨c0, c1, _, _⟩ := k0.two
          obtain ⟨b0, b1, b2, b3⟩ := k1.two
          rw [heq] at hrg hfg hcg
          rw [hnH] at c1
          obtain ⟨h1, f0, f1⟩ := th_ret (N := n) (G := G) (L := L) (A2 := AG) (ln := nH) (c2 := cG) k1 hbw hrg ⟨hfg, hcg⟩ her hnT
          have H1 := Lib.hid h1
          clear h1 her hnT heq hrg hfg hcg k0 hgl hnH
          go_wp2_with fail
          refine bodyPost_ret (v := .tuple #[.agg #[.int .i64 (n : Int), .slice AG nH cG], .int .i64 0]) (by simp [results, Tryd.results26, go_sem] at f0 f1 ⊢; simp [f0, f1]) rfl ?_
          exact H1.out
end Go.Proofs.YtncimnfhfomddaaDoor

/- net.Graph once more: what it returns fits its capacity. -/
namespace Go.Proofs.YtncimnfhfomddaaDoor
open Go.ChangeShapes Go.WideShapes Go.ChangeAt Go.RowKit

def RetGc (p n : Nat) (w : World) : Ending → World → Prop := fun e w' => ∃ (N : Nat) (l : List (Int × Int)) (A : Option Addr) (c : Nat), e = .returned (.agg #[.int .i64 (N : Int), .slice A l.length c]) ∧ 1 ≤ N ∧ N ≤ n ∧ Vld N l ∧ RP w' A l ∧
  (∀ b o, A = some ⟨b, o, none⟩ → w.heap.size ≤ b) ∧ SrcOk w' p ∧ w.grownBy w' (some p) ∧ (A = none → l = [] ∧ c = 0) ∧ l.length ≤ c
set_option maxRecDepth 100000 in
set_option maxHeartbeats 4000000 in
theorem netGraphC_any (p : Nat) (n : Nat) (w : World) (h : SrcOk w p) (hn0 : 1 ≤ n) (hn : n ≤ 40) :
    Calls Tryd.prog 15 #[.pointer (some ⟨p, 0, none⟩), .int .i64 (n : Int)] w (RetGc p n w) := by
  have hpl := h.lt
  go_enter Tryd.func15, Tryd.ntmps15
  go_wp2_with fail
  obtain ⟨W0, hW, k0, hb0, hlt0⟩ : ∃ W0, w.alloc (.cells #[.int .i64 0, .slice none 0 0] 24) = W0 ∧ Blk W0 w.heap.size 24 #[.int .i64 0, .slice none 0 0] ∧ Below w.heap.size w W0 ∧ w.heap.size < W0.heap.size :=
    ⟨_, rfl, Blk.new _ _ _, (Below.refl _ _).alloc (Nat.le_refl _) _, by simp⟩
  rw [hW]
  have hs0 := h.kept hb0
  clear hW h
  refine (krange_any p 1 (n : Int) W0 hs0 (by omega) (by omega) (by omega)).mono ?_
  rintro e w1 ⟨N, rfl, hN1, hN2, hs1, hg1⟩
  obtain ⟨N, rfl⟩ := Int.eq_ofNat_of_zero_le (by omega : (0 : Int) ≤ N)
  have hsz1 := hg1.size
  have k1 := k0.grown hg1 (fun e => by injection e; omega)
  go_wp2_with fail
  obtain ⟨W1, hW, kg1, hb1, hlt1⟩ : ∃ W1, w1.alloc (.cells #[.int .i64 (N : Int), .slice none 0 0] 24) = W1 ∧ Blk W1 w1.heap.size 24 #[.int .i64 (N : Int), .slice none 0 0] ∧ Below w1.heap.size w1 W1 ∧ W1.heap.size = w1.heap.size + 1 :=
    ⟨_, rfl, Blk.new _ _ _, (Below.refl _ _).alloc (Nat.le_refl _) _, by simp⟩
  rw [hW]
  have hs1' := hs1.kept hb1
  have k1' := k1.below hb1 k1.lt
  have hlt1' : w1.heap.size + 1 ≤ W1.heap.size := by omega
  have Hlt1 := Lib.hid hlt1
  clear hW hlt1
  refine (krange_any p 2 5 W1 hs1' (by decide) (by decide) (by decide)).mono ?_
  rintro e w2 ⟨d, rfl, hd1, hd2, hs2, hg2⟩
  have kg2 := kg1.grown hg2 (fun e => by injection e; omega)
  have k2 := k1'.grown hg2 (fun e => by injection e; omega)
  have hsz2 := hg2.size
  have hN40 : N ≤ 40 := by omega
  have hd7 : d ≤ 5 := by omega
  have hnear : Near p w.heap.size w w2 :=
    (((Near.of_below hb0).trans (Near.of_grown hg1 (by omega))).trans (Near.of_below (hb1.mono (by omega)))).trans (Near.of_grown hg2 (by omega))
  have hst0 : GenSt p w1.heap.size w.heap.size (w1.heap.size + 1) N 0 0 [] w w2 :=
    { src := hs2, near := hnear, res := k2, bef := (fun q hq => by cases hq), srt := List.Pairwise.nil, rng := (fun q hq => by cases hq), len := by simp, hG := by omega, hR := by omega, hRG := by omega, hp := by omega, hpG := by omega, hpR := by omega, hb := by omega, hpW := hpl, hWb := Nat.le_refl _, hWG := by omega }
  have hgg0 : GenG w1.heap.size (w1.heap.size + 1) N [] (.slice none 0 0) w2 := ⟨kg2, OwnP.nil _ _⟩
  clear k0 k1 k1' kg1 kg2 k2 hg1 hg2 hs0 hs1 hs1' hs2 hb0 hb1 hnear
  generalize hGG : w1.heap.size = G at *
  clear hGG
  go_wp2_with fail
  go_loopw [7] (fun i wr => ∃ (f : Nat) (l : List (Int × Int)) (v : Value), f ≤ N ∧ i = .int .i64 f ∧ GenG G (G + 1) N l v wr ∧ GenSt p G w.heap.size (G + 1) N f 0 l w wr) (fun i _ => N - (intOf i).toNat)
  case atStart => exact ⟨0, [], _, by omega, rfl, hgg0, hst0⟩
  case round =>
    obtain ⟨f, l, v, hf, rfl, hgg, hst⟩ := hrel
    obtain ⟨a0, a1, a2, a3⟩ := hgg.blk.two
    clear hgg0 hst0
    by_cases hfN : f < N
    case neg =>
      obtain ⟨r0, r1, r2, r3⟩ := hst.res.two
      obtain ⟨A, c, rfl, hrp, hAn⟩ := hgg.own.form2
      have hcap := (OwnP.fit hgg.own).2
      have Hcap := Lib.hid hcap
      clear hcap
      have hE := hst.ends (by omega) hf
      go_wp2_with fail
      refine bodyPost_ret (v := .agg #[.int .i64 N, .slice A l.length c]) (by simp [results, Tryd.results15, go_sem, (hst.res.set_ 0 _ |>.set_ 1 _).two.1, (hst.res.set_ 0 _ |>.set_ 1 _).two.2.1]) rfl ?_
      obtain ⟨h1, h2, h3⟩ := hE (.int .i64 N) (.slice A l.length c)
      have hloc : ∀ b o, A = some ⟨b, o, none⟩ → w.heap.size ≤ b ∧ b ≠ w.heap.size := fun b o hA => by
        subst hA
        have := (hgg.own.lt b rfl).1; have := hst.hWG; have := hst.hRG; omega
      exact ⟨N, l, A, c, rfl, by omega, by omega, h1, hrp.far2 (fun b o hA _ => (hloc b o hA).2) _ _, fun b o hA => (hloc b o hA).1, h2, h3, hAn, Hcap.out⟩
    case pos =>
    have hfN' : (f : Int) < (N : Int) := by omega
    obtain ⟨wo, hwo⟩ : ∃ wo, wo = wr := ⟨_, rfl⟩
    subst hwo
    go_wp2_with fail
    clear a0 a1 a2 a3
    go_loopw [8] (fun i wr => ∃ (t : Nat) (l : List (Int × Int)) (v : Value), t ≤ N ∧ i = .int .i64 t ∧ GenG G (G + 1) N l v wr ∧ GenSt p G w.heap.size (G + 1) N f t l w wr) (fun i _ => N - (intOf i).toNat)
    case atStart => exact ⟨0, l, v, by omega, rfl, hgg, hst⟩
    case round =>
      clear hgg hst
      obtain ⟨t, l, v, ht, rfl, hgg, hst⟩ := hrel
      obtain ⟨a0, a1, a2, a3⟩ := hgg.blk.two
      by_cases htN : t < N
      case neg =>
        obtain rfl : t = N := by omega
        go_wp2
        go_roundw
        case rel => exact ⟨f + 1, l, v, by omega, by go_num, hgg, hst.row hN40⟩
        case measure => simp [intOf]; omega
      case pos =>
      have htN' : (t : Int) < (N : Int) := by omega
      have hsrc := hst.src
      by_cases hft : f = t
      · obtain rfl : t = f := hft.symm
        go_wp2_with fail
        refine (n_any p 9 wr hsrc (by omega) (by omega)).mono ?_
        rintro e w3 ⟨k, rfl, hk1, hk2, hs3, hg3⟩
        have hgg3 : GenG G (G + 1) N l v w3 := ⟨hgg.blk.grown hg3 (fun e => by injection e with e; exact hst.hpG e.symm), ownsRow_far hgg.own hg3 hst.hp⟩
        have hst3 := hst.read hs3 hg3
        clear hgg hst a0 a1 a2 a3 hg3 hs3 hsrc
        obtain ⟨a0, a1, a2, a3⟩ := hgg3.blk.two
        have hlen3 : l.length ≤ 1000000 := by have := hst3.len; omega
        have hbs := hst3.hb
        by_cases hk1 : k = 1
        · have hkb : (k == 1) = true := by simp [hk1]
          have Hk0 := Lib.hid hk1; clear hk1
          go_wp2_with (at_builtin; (refine wpList_appP (by rfl) _ _ (by rfl) w3 (G + 1) _ l (t : Int) (t : Int) hgg3.own (by rfl) (by rfl) hlen3 hbs ?_; intro v' w4 hown4 hb4 hg4; (obtain ⟨A', c', rfl, _, _⟩ := OwnP.form hown4); rw [List.length_append] at hown4; simp only [List.length_singleton] at hown4; have kg4 := hgg3.blk.append hgg3.own hg4 (Nat.lt_succ_self G); (obtain ⟨b0, b1, b2, b3⟩ := kg4.two)))
          go_roundw
          case rel => exact ⟨t + 1, l ++ [((t : Int), (t : Int))], .slice A' _ c', by omega, by go_num, ⟨kg4.set_ 1 _, ownsRow_setCell_below hown4 (a := ⟨G, 1, none⟩) (Nat.lt_succ_self G) _⟩, hst3.add hgg3.own hg4 hb4 htN htN _⟩
          case measure => simp [intOf]; omega
        · have hkb : (k == 1) = false := by simp [hk1]
          have Hk0 := Lib.hid hk1; clear hk1
          go_wp2_with fail
          go_roundw
          case rel => exact ⟨t + 1, l, v, by omega, by go_num, hgg3, hst3.next⟩
          case measure => simp [intOf]; omega
      · have hne : ((f : Int) == (t : Int)) = false := by rw [beq_eq_false_iff_ne]; omega
        have Hft := Lib.hid hft; clear hft
        go_wp2_with fail
        refine (n_any p d wr hsrc (by omega) (by omega)).mono ?_
        rintro e w3 ⟨k, rfl, hk1, hk2, hs3, hg3⟩
        have hgg3 : GenG G (G + 1) N l v w3 := ⟨hgg.blk.grown hg3 (fun e => by injection e with e; exact hst.hpG e.symm), ownsRow_far hgg.own hg3 hst.hp⟩
        have hst3 := hst.read hs3 hg3
        clear hgg hst a0 a1 a2 a3 hg3 hs3 hsrc
        obtain ⟨a0, a1, a2, a3⟩ := hgg3.blk.two
        have hlen3 : l.length ≤ 1000000 := by have := hst3.len; omega
        have hbs := hst3.hb
        by_cases hk1 : k = 1
        · have hkb : (k == 1) = true := by simp [hk1]
          have Hk0 := Lib.hid hk1; clear hk1
          go_wp2_with (at_builtin; (refine wpList_appP (by rfl) _ _ (by rfl) w3 (G + 1) _ l (f : Int) (t : Int) hgg3.own (by rfl) (by rfl) hlen3 hbs ?_; intro v' w4 hown4 hb4 hg4; (obtain ⟨A', c', rfl, _, _⟩ := OwnP.form hown4); rw [List.length_append] at hown4; simp only [List.length_singleton] at hown4; have kg4 := hgg3.blk.append hgg3.own hg4 (Nat.lt_succ_self G); (obtain ⟨b0, b1, b2, b3⟩ := kg4.two)))
          go_roundw
          case rel => exact ⟨t + 1, l ++ [((f : Int), (t : Int))], .slice A' _ c', by omega, by go_num, ⟨kg4.set_ 1 _, ownsRow_setCell_below hown4 (a := ⟨G, 1, none⟩) (Nat.lt_succ_self G) _⟩, hst3.add hgg3.own hg4 hb4 hfN htN _⟩
          case measure => simp [intOf]; omega
        · have hkb : (k == 1) = false := by simp [hk1]
          have Hk0 := Lib.hid hk1; clear hk1
          go_wp2_with fail
          go_roundw
          case rel => exact ⟨t + 1, l, v, by omega, by go_num, hgg3, hst3.next⟩
          case measure => simp [intOf]; omega
end Go.Proofs.YtncimnfhfomddaaDoor

/- The plain law of EnforceWorks: Check accepts what Strict and Loose return. -/
namespace Go.Proofs.YtncimnfhfomddaaDoor
open Go.ChangeShapes Go.WideShapes Go.ChangeAt Go.RowKit

section
variable {n : Nat} {G : List (Int × Int)} {s : List Int} {kind : Int}
theorem strC_len (hv : Vld n G) : (strC n G s kind).length ≤ G.length + 40 := by
  unfold strC dutL
  rw [List.length_map, List.length_append]
  have h1 := dutA_len (maskN s) G
  have h3 := dutB_len n G s kind n
  have h2 := hv.1.1
  unfold dutB at h3
  omega
theorem dut_mem_i64 (hv : Vld n G) (hs : setB n s = true) (hh : hpB n s kind = false) (hk : kind = 1 ∨ kind = 2) : ∀ l ∈ dutL n G s kind, ∀ p ∈ l, I64 p := fun l hl p hp => okP_i64 (Nat.le_trans hv.1.1 (by decide)) ((dut_ok hv hs hh hk l hl).2.2 p hp)
theorem flat_len {α : Type} {L : List (List α)} {m : Nat} (h : ∀ l ∈ L, l.length ≤ m) : L.flatten.length ≤ L.length * m := by
  induction L with
  | nil => simp
  | cons a L ih =>
    rw [List.flatten_cons, List.length_append, List.length_cons, Nat.succ_mul]
    have h1 := h a (by simp)
    have h2 := ih (fun l hl => h l (List.mem_cons_of_mem _ hl))
    omega
theorem dut_each (hv : Vld n G) (hs : setB n s = true) (hk : kind = 1 ∨ kind = 2) : ∀ d ∈ dutL n G s kind, d.length ≤ 80 := fun d hd => by
  rw [← dutR_eq hv.1 hs hk] at hd
  have h5 := setB_len hs
  have h4 := hv.1.1
  rcases mem_dutR.1 hd with ⟨p, _, _, _, rfl⟩ | ⟨a, _, _, _, _, rfl⟩
  · simp
  · have := dyR_len G kind a s; omega
end
end Go.Proofs.YtncimnfhfomddaaDoor
