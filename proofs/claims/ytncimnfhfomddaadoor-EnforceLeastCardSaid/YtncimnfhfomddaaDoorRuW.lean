import Derived.Test.YtncimnfhfomddaaDoorRdW
/- ref21.Toggle. -/
namespace Go.Proofs.YtncimnfhfomddaaDoor
open Go.ChangeShapes Go.WideShapes Go.ChangeAt Go.RowKit

/-- Toggle's answer -/
def RetTh (N : Int) (G L : List (Int × Int)) (w : World) : Ending → World → Prop := fun e w' => ∃ A c, e = .returned (.tuple #[.agg #[.int .i64 (tgN N G L), .slice A (tgG N G L).length c], .int .i64 (tgErr N G L)]) ∧
  RP w' A (tgG N G L) ∧ (A = none → tgG N G L = [] ∧ c = 0) ∧ (tgG N G L).length ≤ c ∧ Below w.heap.size w w'
theorem th_end {N : Int} {G L : List (Int × Int)} {w X : World} {er : Int} (hk : Blk X (w.heap.size + 1) 24 #[.int .i64 0, .slice none 0 0]) (hb : Below w.heap.size w X) (he : tgErr N G L = er) (h0 : er ≠ 0) :
    RetTh N G L w (.returned (.tuple #[.agg #[.int .i64 0, .slice none 0 0], .int .i64 er])) ((X.setCell ⟨w.heap.size + 1, 0, none⟩ (.int .i64 0)).setCell ⟨w.heap.size + 1, 1, none⟩ (.slice none 0 0)) ∧
    ((X.setCell ⟨w.heap.size + 1, 0, none⟩ (.int .i64 0)).setCell ⟨w.heap.size + 1, 1, none⟩ (.slice none 0 0)).cell? ⟨w.heap.size + 1, 0, none⟩ = some (.int .i64 0) ∧
    ((X.setCell ⟨w.heap.size + 1, 0, none⟩ (.int .i64 0)).setCell ⟨w.heap.size + 1, 1, none⟩ (.slice none 0 0)).cell? ⟨w.heap.size + 1, 1, none⟩ = some (.slice none 0 0) := by
  have k := (hk.set_ 0 (.int .i64 0)).set_ 1 (.slice none 0 0)
  obtain ⟨c0, c1, _, _⟩ := k.two
  refine ⟨⟨none, 0, ?_, ?_, fun _ => ⟨?_, rfl⟩, ?_, ?_⟩, c0, c1⟩
  · unfold tgN tgG; rw [he, if_neg h0, if_neg h0]; rfl
  · unfold tgG; rw [he, if_neg h0]; exact RP.nil _ _
  · unfold tgG; rw [he, if_neg h0]
  · unfold tgG; rw [he, if_neg h0]; exact Nat.le_refl _
  · exact (hb.setCell (p := ⟨w.heap.size + 1, 0, none⟩) (Nat.le_succ _) _).setCell (p := ⟨w.heap.size + 1, 1, none⟩) (Nat.le_succ _) _
/-- a list of pairs is never in a graph's box -/
theorem RP.apartG {w : World} {A : Option Addr} {l : List (Int × Int)} {q : Nat} {t : TypeId} {x v : Value} (h : RP w A l) (k : Blk w q t #[x, v]) (hv : ∀ k i, v ≠ .int k i) : ∀ b o, A = some ⟨b, o, none⟩ → 0 < l.length → b ≠ q := fun b o hA hl e => by
  subst e
  obtain ⟨b', o', hA', h1, h2⟩ := h 0 hl
  rw [hA] at hA'
  injection hA' with hA'; injection hA' with hA1 hA2; subst hA1; subst hA2
  rw [k.cell] at h1 h2
  have h3 : o + 0 * 2 + 1 < 2 := by
    have := (Array.getElem?_eq_some_iff.1 h2).1
    simpa using this
  have h4 : o + 0 * 2 + 1 = 1 := by omega
  rw [h4] at h2
  have h5 : some v = some (Value.int .i64 (l.getD 0 (0, 0)).2) := h2
  injection h5 with h5
  exact hv _ _ h5
theorem th_ret {N : Int} {G L : List (Int × Int)} {w X : World} {A2 : Option Addr} {ln c2 : Nat} (hk : Blk X (w.heap.size + 1) 24 #[.int .i64 0, .slice none 0 0]) (hb : Below w.heap.size w X) (hp : RP X A2 (tgL G L)) (hf : (A2 = none → tgL G L = [] ∧ c2 = 0) ∧ (tgL G L).length ≤ c2)
    (he : tgErr N G L = 0) (hn : ln = (tgL G L).length) :
    RetTh N G L w (.returned (.tuple #[.agg #[.int .i64 N, .slice A2 ln c2], .int .i64 0])) ((X.setCell ⟨w.heap.size + 1, 0, none⟩ (.int .i64 N)).setCell ⟨w.heap.size + 1, 1, none⟩ (.slice A2 ln c2)) ∧
    ((X.setCell ⟨w.heap.size + 1, 0, none⟩ (.int .i64 N)).setCell ⟨w.heap.size + 1, 1, none⟩ (.slice A2 ln c2)).cell? ⟨w.heap.size + 1, 0, none⟩ = some (.int .i64 N) ∧
    ((X.setCell ⟨w.heap.size + 1, 0, none⟩ (.int .i64 N)).setCell ⟨w.heap.size + 1, 1, none⟩ (.slice A2 ln c2)).cell? ⟨w.heap.size + 1, 1, none⟩ = some (.slice A2 ln c2) := by
  subst hn
  have k := (hk.set_ 0 (.int .i64 N)).set_ 1 (.slice A2 (tgL G L).length c2)
  obtain ⟨c0, c1, _, _⟩ := k.two
  refine ⟨⟨A2, c2, ?_, ?_, ?_, ?_, ?_⟩, c0, c1⟩
  · unfold tgN tgG; rw [he, if_pos rfl, if_pos rfl]
  · unfold tgG; rw [he, if_pos rfl]; exact hp.far2 (hp.apartG hk (fun _ _ e => by cases e)) _ _
  · unfold tgG; rw [he, if_pos rfl]; exact hf.1
  · unfold tgG; rw [he, if_pos rfl]; exact hf.2
  · exact (hb.setCell (p := ⟨w.heap.size + 1, 0, none⟩) (Nat.le_succ _) _).setCell (p := ⟨w.heap.size + 1, 1, none⟩) (Nat.le_succ _) _
theorem togsR_step {G L : List (Int × Int)} {k : Nat} (h : k < L.length) : togsR G (L.take (k + 1)) = togR (togsR G (L.take k)) L[k] := by
  rw [List.take_succ_eq_append_getElem h]
  unfold togsR
  rw [List.foldl_append]; rfl
def okB (n : Nat) (p : Int × Int) : Bool := decide (0 ≤ p.1) && decide (p.1 < n) && decide (0 ≤ p.2) && decide (p.2 < n)
theorem okB_iff {n : Nat} {p : Int × Int} : okB n p = true ↔ okP n p := by unfold okB okP; simp only [Bool.and_eq_true, decide_eq_true_iff, and_assoc]
theorem okB_no {n : Nat} {p : Int × Int} (h : okB n p = false) : ¬ okP n p := fun e => by rw [okB_iff.2 e] at h; cases h
set_option maxRecDepth 100000 in
set_option maxHeartbeats 4000000 in
theorem rToggle_any (A A2 : Option Addr) (N : Int) (G L : List (Int × Int)) (c c2 : Nat) (w : World) (hr : RP w A G) (hr2 : RP w A2 L) (hl : G.length + L.length ≤ 100000) (hA : A = none → G = [] ∧ c = 0) (hc : G.length ≤ c) (hc2 : L.length ≤ c2) :
    Calls Tryd.prog 26 #[.agg #[.int .i64 N, .slice A G.length c], .slice A2 L.length c2] w (RetTh N G L w) := by
  have HA := Lib.hid hA
  clear hA
  go_enter Tryd.func26, Tryd.ntmps26
  go_wp2_with fail
  obtain ⟨W0, hW, k0, k1, hb0, hlt0⟩ := boxed2 w 24 24 (.int .i64 N) (.slice A G.length c) (.int .i64 0) (.slice none 0 0)
  rw [hW]
  have hr0 := hr.below hb0
  clear hW
  refine (r10Validate_any _ _ _ _ _ hr0 (by omega)).mono ?_
  rintro e w1 ⟨rfl, hb⟩
  have j0 := k0.below hb k0.lt
  have j1 := k1.below hb k1.lt
  have hbb := endB hb0 hb
  clear k0 k1 hb0 hb hr0
  by_cases hv0 : valE N G = 0
  case neg =>
    obtain ⟨b0, b1, b2, b3⟩ := j1.two
    have hd : (valE N G != 0) = true := by simp [hv0]
    obtain ⟨h1, e0, e1⟩ := th_end (N := N) (G := G) (L := L) j1 hbb (by unfold tgErr; rw [if_neg hv0]) hv0
    have H1 := Lib.hid h1
    clear h1
    go_wp2_with fail
    refine bodyPost_ret (v := .tuple #[.agg #[.int .i64 0, .slice none 0 0], .int .i64 (valE N G)]) (by simp [results, Tryd.results26, go_sem] at e0 e1 ⊢; simp [e0, e1]) rfl ?_
    exact H1.out
  have hd : (valE N G != 0) = false := by simp [hv0]
  obtain ⟨n, rfl, hv⟩ := vld_of_valE hv0 (by omega)
  have Hv := Lib.hid hv
  have Hv0 := Lib.hid hv0
  clear hv hv0
  go_wp2_with fail
  go_loopw [7] (fun i wr => ∃ k : Nat, k ≤ L.length ∧ i = .int .i64 k ∧ (∀ p ∈ L.take k, okP n p) ∧ Blk wr w.heap.size 24 #[.int .i64 (n : Int), .slice A G.length c] ∧ Blk wr (w.heap.size + 1) 24 #[.int .i64 0, .slice none 0 0] ∧ Below w.heap.size w wr) (fun i _ => L.length - (intOf i).toNat)
  case atStart => exact ⟨0, Nat.zero_le _, rfl, (fun _ h => by simp at h), j0, j1, hbb⟩
  case round =>
    clear j0 j1 hbb
    obtain ⟨k, hk, rfl, hok, k0, k1, hbw⟩ := hrel
    have Hok := Lib.hid hok
    clear hok
    by_cases hlt : k < L.length
    case pos =>
      obtain ⟨b, o, rfl, hc1, hd2⟩ := (hr2.below hbw).at_ hlt
      obtain ⟨c0, c1, _, _⟩ := k0.two
      go_upto_region 7 with fail
      go_cut [55] (fun v wx => v = .bool (!okB n L[k]) ∧ Blk wx w.heap.size 24 #[.int .i64 (n : Int), .slice A G.length c] ∧ Blk wx (w.heap.size + 1) 24 #[.int .i64 0, .slice none 0 0] ∧ Below w.heap.size w wx)
      case first =>
        obtain ⟨r, hrr⟩ : ∃ r, okB n L[k] = r := ⟨_, rfl⟩
        have HR := Lib.hid hrr
        unfold okB at hrr
        by_cases t1 : L[k].1 < 0
        · have d1 : decide (L[k].1 < 0) = true := decide_eq_true t1
          rw [decide_eq_false (show ¬ 0 ≤ L[k].1 by omega)] at hrr
          simp only [Bool.false_and] at hrr
          subst hrr
          clear t1
          go_quiet (fail)
          go_wp2_with fail
          go_meet
          exact ⟨by rw [HR.out]; rfl, k0, k1, below_drewN hbw nq⟩
        have d1 : decide (L[k].1 < 0) = false := decide_eq_false t1
        rw [decide_eq_true (show 0 ≤ L[k].1 by omega), Bool.true_and] at hrr
        clear t1
        by_cases t2 : (n : Int) ≤ L[k].1
        · have d2 : decide ((n : Int) ≤ L[k].1) = true := decide_eq_true t2
          rw [decide_eq_false (show ¬ L[k].1 < (n : Int) by omega)] at hrr
          simp only [Bool.false_and] at hrr
          subst hrr
          clear t2
          go_quiet (fail)
          go_wp2_with fail
          go_meet
          exact ⟨by rw [HR.out]; rfl, k0, k1, below_drewN hbw nq⟩
        have d2 : decide ((n : Int) ≤ L[k].1) = false := decide_eq_false t2
        rw [decide_eq_true (show L[k].1 < (n : Int) by omega), Bool.true_and] at hrr
        clear t2
        by_cases t3 : L[k].2 < 0
        · have d3 : decide (L[k].2 < 0) = true := decide_eq_true t3
          rw [decide_eq_false (show ¬ 0 ≤ L[k].2 by omega)] at hrr
          simp only [Bool.false_and] at hrr
          subst hrr
          clear t3
          go_quiet (fail)
          go_wp2_with fail
          go_meet
          exact ⟨by rw [HR.out]; rfl, k0, k1, below_drewN hbw nq⟩
        have d3 : decide (L[k].2 < 0) = false := decide_eq_false t3
        rw [decide_eq_true (show 0 ≤ L[k].2 by omega), Bool.true_and] at hrr
        clear t3
        have d4 : decide ((n : Int) ≤ L[k].2) = !r := by
          rw [← hrr]
          by_cases t4 : (n : Int) ≤ L[k].2
          · rw [decide_eq_true t4, decide_eq_false (show ¬ L[k].2 < (n : Int) by omega)]; rfl
          · rw [decide_eq_false t4, decide_eq_true (show L[k].2 < (n : Int) by omega)]; rfl
        clear hrr
        go_quiet (fail)
        go_wp2_with fail
        go_meet
        exact ⟨by rw [HR.out], k0, k1, below_drewN hbw nq⟩
      obtain ⟨rfl, k0, k1, hbw⟩ := hcut
      clear c0 c1 hc1 hd2
      cases hob : okB n L[k]
      case false =>
        have her : tgErr n G L = 1 := by unfold tgErr; rw [if_pos Hv0.out]; exact tgE_one hlt (okB_no hob)
        obtain ⟨h1, f0, f1⟩ := th_end (N := n) (G := G) (L := L) k1 hbw her (by omega)
        have H1 := Lib.hid h1
        clear h1 her hob
        obtain ⟨b0, b1, b2, b3⟩ := k1.two
        go_wp2_with fail
        refine bodyPost_ret (v := .tuple #[.agg #[.int .i64 0, .slice none 0 0], .int .i64 1]) (by simp [results, Tryd.results26, go_sem] at f0 f1 ⊢; simp [f0, f1]) rfl ?_
        exact H1.out
      case true =>
        have hok' : ∀ p ∈ L.take (k + 1), okP n p := fun p hp => by
          rcases (mem_take_succ hlt p).1 hp with rfl | hp
          · exact okB_iff.1 hob
          · exact Hok.out p hp
        have Hok' := Lib.hid hok'
        clear hok' hob
        go_wp2_with fail
        go_roundw
        case rel => exact ⟨k + 1, hlt, by go_num, Hok'.out, k0, k1, hbw⟩
        case measure => simp [intOf]; omega
    case neg =>
    obtain rfl : k = L.length := by omega
    have hok := Hok.out
    rw [List.take_length] at hok
    have Hok := Lib.hid hok
    clear hok hk
    go_wp2_with fail
    go_loopw [8] (fun i wr => ∃ k : Nat, k ≤ L.length ∧ i = .int .i64 k ∧ (L.take k).Nodup ∧ Blk wr w.heap.size 24 #[.int .i64 (n : Int), .slice A G.length c] ∧ Blk wr (w.heap.size + 1) 24 #[.int .i64 0, .slice none 0 0] ∧ Below w.heap.size w wr) (fun i _ => L.length - (intOf i).toNat)
    case atStart => exact ⟨0, Nat.zero_le _, rfl, by simp, k0, k1, hbw⟩
    case round =>
      clear k0 k1 hbw hlt
      obtain ⟨k, hk, rfl, hnd, k0, k1, hbw⟩ := hrel
      have Hnd := Lib.hid hnd
      clear hnd
      by_cases hlt : k < L.length
      case pos =>
        obtain ⟨b, o, rfl, hc1, hd2⟩ := (hr2.below hbw).at_ hlt
        obtain ⟨b0, b1, b2, b3⟩ := k1.two
        have hsl := run_preP (some ⟨b, o, none⟩) L.length c2 k (by omega)
        have hin : ∀ r, hasB (L.take k) L[k].1 L[k].2 = r → (r = true → tgErr n G L = 5) ∧ (r = false → (L.take (k + 1)).Nodup) := fun r hrr => by
          refine ⟨fun e => ?_, fun e => ?_⟩
          · rw [e] at hrr
            unfold tgErr; rw [if_pos Hv0.out]; exact tgE_five Hok.out hlt (hasB_iff.1 hrr)
          · rw [e] at hrr
            exact nodup_take hlt Hnd.out (hasB_false.1 hrr)
        have hpr := (hr2.below hbw).take k
        have hTl : (L.take k).length = k := by rw [List.length_take]; omega
        obtain ⟨T, hT⟩ : ∃ T, L.take k = T := ⟨_, rfl⟩
        obtain ⟨x, hx⟩ : ∃ x, L[k] = x := ⟨_, rfl⟩
        rw [hT] at hpr hTl
        rw [hT, hx] at hin
        rw [hx] at hc1 hd2
        have hhas := fun W (hW : Below wr.heap.size wr W) => rHas_any (some ⟨b, o, none⟩) T c2 x.1 x.2 W (hpr.below hW) (by omega)
        obtain ⟨r, hrr⟩ : ∃ r, hasB T x.1 x.2 = r := ⟨_, rfl⟩
        obtain ⟨hr5, hr6⟩ := hin r hrr
        rw [hrr, hTl] at hhas
        have Hhas := Lib.hid hhas; have Hr5 := Lib.hid hr5; have Hr6 := Lib.hid hr6
        clear hhas hin hr5 hr6 hpr hTl hT hx hrr
        go_upto_region 12 with fail
        go_cut [70] (fun v wx => v = .bool r ∧ Below wr.heap.size wr wx)
        case first =>
          refine wp_region_textB [7] (fun w' => Below wr.heap.size wr w') (fun _ => True) (by kernel_rfl) (by kernel_rfl) (by kernel_rfl) (Below.refl _ _).drew trivial ?_
          repeat (first
            | (refine TxtBL.skip (by rfl) ?_; simp only [Act.put, List.setIfInBounds_toArray, List.set_cons_zero, List.set_cons_succ])
            | (refine TxtBL.take (by rfl) (by rfl) ?_; apply Exists.intro; refine ⟨fun w1 hS1 => ?_, ?_⟩; (focus ((have g0 := (hS1.cell (lt_of_cell hc1)).trans hc1; have g1 := (hS1.cell (lt_of_cell hd2)).trans hd2); go_simp; with_reducible rfl)); simp only [Act.put, List.setIfInBounds_toArray, List.set_cons_zero, List.set_cons_succ])
            | (refine TxtBL.takeE (by rfl) (by rfl) ?_; apply Exists.intro; refine ⟨fun w1 hS1 => ?_, ?_⟩; (focus ((have g0 := (hS1.cell (lt_of_cell hc1)).trans hc1; have g1 := (hS1.cell (lt_of_cell hd2)).trans hd2); go_simp; with_reducible rfl)); simp only [Act.put, List.setIfInBounds_toArray, List.set_cons_zero, List.set_cons_succ]))
          refine TxtBL.call (f := 23) (args := #[.slice (some ⟨b, o, none⟩) k c2, .agg #[.int .i64 x.1, .int .i64 x.2]]) (fun u => u = .bool r) (fun _ _ => True) (by rfl) (by rfl) ⟨_, rfl⟩ (fun w1 hS1 hJ1 => by go_simp) (fun w1 hS1 hJ1 => ?_) ?_
          · refine (Hhas.out w1 hS1).mono ?_
            rintro e w' ⟨rfl, hb⟩
            exact ⟨_, rfl, hS1.trans (hb.mono hS1.size), rfl, trivial⟩
          rintro _ rfl
          simp only [Act.put, List.setIfInBounds_toArray, List.set_cons_zero, List.set_cons_succ]
          repeat (first
            | (refine TxtBL.skip (by rfl) ?_; simp only [Act.put, List.setIfInBounds_toArray, List.set_cons_zero, List.set_cons_succ])
            | (refine TxtBL.take (by rfl) (by rfl) ?_; apply Exists.intro; refine ⟨fun w1 hS1 => ?_, ?_⟩; (focus (skip; go_simp; with_reducible rfl)); simp only [Act.put, List.setIfInBounds_toArray, List.set_cons_zero, List.set_cons_succ])
            | (refine TxtBL.takeE (by rfl) (by rfl) ?_; apply Exists.intro; refine ⟨fun w1 hS1 => ?_, ?_⟩; (focus (skip; go_simp; with_reducible rfl)); simp only [Act.put, List.setIfInBounds_toArray, List.set_cons_zero, List.set_cons_succ]))
          refine TxtBL.nil (fun W2 hS2 _ => ?_)
          go_wp2_with fail
          go_meet
          exact ⟨rfl, hS2⟩
        obtain ⟨rfl, hb2⟩ := hcut
        have k02 := k0.below hb2 k0.lt
        have k12 := k1.below hb2 k1.lt
        have hbw2 := endB hbw hb2
        clear k0 k1 hbw hc1 hd2 hsl b0 b1 b2 b3 hb2
        obtain ⟨b0, b1, b2, b3⟩ := k12.two
        cases r
        case true =>
          obtain ⟨h1, f0, f1⟩ := th_end (N := n) (G := G) (L := L) k12 hbw2 (Hr5.out rfl) (by omega)
          have H1 := Lib.hid h1
          clear h1
          go_wp2_with fail
          refine bodyPost_ret (v := .tuple #[.agg #[.int .i64 0, .slice none 0 0], .int .i64 5]) (by simp [results, Tryd.results26, go_sem] at f0 f1 ⊢; simp [f0, f1]) rfl ?_
          exact H1.out
        case false =>
          have Hnd' := Lib.hid (Hr6.out rfl)
          go_wp2_with fail
          go_roundw
          case rel => exact ⟨k + 1, hlt, by go_num, Hnd'.out, k02, k12, hbw2⟩
          case measure => simp [intOf]; omega
      case neg =>
      obtain rfl : k = L.length := by omega
      have hnd := Hnd.out
      rw [List.take_length] at hnd
      have Hnd := Lib.hid hnd
      clear hnd hk
      go_wp2_with fail
      go_loopw [9] (fun i wr => ∃ (k : Nat) (AG : Option Addr) (cG : Nat), k ≤ L.length ∧ i = .int .i64 k ∧ Blk wr w.heap.size 24 #[.int .i64 (n : Int), .slice AG (togsR G (L.take k)).length cG] ∧ RP wr AG (togsR G (L.take k)) ∧ (AG = none → togsR G (L.take k) = [] ∧ cG = 0) ∧ (togsR G (L.take k)).length ≤ cG ∧ Blk wr (w.heap.size + 1) 24 #[.int .i64 0, .slice none 0 0] ∧ Below w.heap.size w wr) (fun i _ => L.length - (intOf i).toNat)
      case atStart => exact ⟨0, A, c, Nat.zero_le _, rfl, k0, hr.below hbw, HA.out, hc, k1, hbw⟩
      case round =>
        clear k0 k1 hbw hlt
        obtain ⟨k, AG, cG, hk, rfl, k0, hrg, hfg, hcg, k1, hbw⟩ := hrel
        have hgl := togsR_len G (L.take k)
        rw [List.length_take] at hgl
        by_cases hlt : k < L.length
        case pos =>
          obtain ⟨b, o, rfl, hc1, hd2⟩ := (hr2.below hbw).at_ hlt
          have hstp := togsR_step (G := G) hlt
          obtain ⟨H, hH⟩ : ∃ H, togsR G (L.take k) = H := ⟨_, rfl⟩
          obtain ⟨x, hx⟩ : ∃ x, L[k] = x := ⟨_, rfl⟩
          rw [hH, hx] at hstp
          rw [hx] at hc1 hd2
          have hk0H := k0
          rw [hH] at hk0H hrg hfg hcg hgl
          obtain ⟨nH, hnH⟩ : ∃ nH, (togsR G (L.take k)).length = nH := ⟨_, rfl⟩
          have hnH' : nH = H.length := by rw [← hnH, hH]
          have htg := fun W (hW : Below wr.heap.size wr W) => rTog_any AG (n : Int) H cG x W (hrg.below hW) (by omega) hfg hcg
          have hapq := hrg.apartG hk0H (fun _ _ e => by cases e)
          rw [← hnH'] at htg hk0H
          have Htg := Lib.hid htg; have Hstp := Lib.hid hstp
          clear htg hstp hH hx hnH hnH' hrg hfg hcg hgl k0 hapq
          obtain ⟨c0, c1, c2', c3'⟩ := hk0H.two
          go_upto_region 17 with fail
          refine wp_region_textZ [5, 6] (fun w' => Below wr.heap.size wr w') (fun _ => True) (by kernel_rfl) (by kernel_rfl) (by kernel_rfl) (by kernel_rfl) (Below.refl _ _).drew trivial ?_
          repeat (first
            | (refine TxtZL.skip (by rfl) ?_; simp only [Act.put, List.setIfInBounds_toArray, List.set_cons_zero, List.set_cons_succ])
            | (refine TxtZL.take (by rfl) (by rfl) ?_; apply Exists.intro; refine ⟨fun w1 hS1 => ?_, ?_⟩; (focus ((have g0 := (hS1.cell (lt_of_cell hc1)).trans hc1; have g1 := (hS1.cell (lt_of_cell hd2)).trans hd2; have g2 := (hS1.cell (lt_of_cell c0)).trans c0; have g3 := (hS1.cell (lt_of_cell c1)).trans c1); go_simp; with_reducible rfl)); simp only [Act.put, List.setIfInBounds_toArray, List.set_cons_zero, List.set_cons_succ])
            | (refine TxtZL.takeE' (by rfl) (by rfl) ?_; apply Exists.intro; refine ⟨fun w1 hS1 => ?_, ?_⟩; (focus ((have g0 := (hS1.cell (lt_of_cell hc1)).trans hc1; have g1 := (hS1.cell (lt_of_cell hd2)).trans hd2; have g2 := (hS1.cell (lt_of_cell c0)).trans c0; have g3 := (hS1.cell (lt_of_cell c1)).trans c1); go_simp; with_reducible rfl)); simp only [Act.put, List.setIfInBounds_toArray, List.set_cons_zero, List.set_cons_succ]))
          refine TxtZL.call (f := 59) (args := #[.agg #[.int .i64 (n : Int), .slice AG nH cG], .agg #[.int .i64 x.1, .int .i64 x.2]]) (fun u => ∃ A' nZ c', u = Value.agg #[.int .i64 (n : Int), .slice A' nZ c']) (fun u w' => ∃ A' c', u = Value.agg #[.int .i64 (n : Int), .slice A' (togR H x).length c'] ∧ RP w' A' (togR H x) ∧ (A' = none → togR H x = [] ∧ c' = 0) ∧ (togR H x).length ≤ c') (by rfl) (by rfl) ⟨_, none, 0, 0, rfl⟩ (fun w1 hS1 hJ1 => by go_simp) (fun w1 hS1 hJ1 => ?_) ?_
          · refine (Htg.out w1 hS1).mono ?_
            rintro e w' ⟨A', c', rfl, h1, h2, h3, hb⟩
            exact ⟨_, rfl, hS1.trans (hb.mono hS1.size), ⟨A', _, c', rfl⟩, A', c', rfl, h1, h2, h3⟩
          rintro _ ⟨A', nZ, c', rfl⟩
          simp only [Act.put, List.setIfInBounds_toArray, List.set_cons_zero, List.set_cons_succ]
          refine TxtZL.last (fun w' => nZ = (togR H x).length ∧ RP w' A' (togR H x) ∧ (A' = none → togR H x = [] ∧ c' = 0) ∧ (togR H x).length ≤ c' ∧ Blk w' w.heap.size 24 #[.int .i64 (n : Int), .slice A' nZ c'] ∧ Blk w' (w.heap.size + 1) 24 #[.int .i64 0, .slice none 0 0] ∧ Below w.heap.size w w') (by rfl) (by rfl) (fun w4 hS4 hJ4 => ?_) ?_
          · obtain ⟨A9, c9, e9, h1, h2, h3⟩ := hJ4
            simp only [Value.agg.injEq, Array.mk.injEq, List.cons.injEq, Value.slice.injEq, true_and, and_true] at e9
            obtain ⟨e9a, e9b, e9c⟩ := e9
            subst e9a; subst e9c
            have j0 := hk0H.below hS4 hk0H.lt
            have j1 := k1.below hS4 k1.lt
            obtain ⟨g0, g1, g2, g3⟩ := j0.two
            exact Eff.skip (w' := (w4.setCell ⟨w.heap.size, 0, none⟩ (.int .i64 (n : Int))).setCell ⟨w.heap.size, 1, none⟩ (.slice A' nZ c')) (by go_simp) ⟨e9b, h1.far2 (h1.apartG j0 (fun _ _ e => by cases e)) _ _, h2, h3, (j0.set_ 0 _).set_ 1 _, (j1.far (p := ⟨w.heap.size, 0, none⟩) (by simp) _).far (p := ⟨w.heap.size, 1, none⟩) (by simp) _,
              ((endB hbw hS4).setCell (p := ⟨w.heap.size, 0, none⟩) (Nat.le_refl _) _).setCell (p := ⟨w.heap.size, 1, none⟩) (Nat.le_refl _) _⟩
          rintro u2 w5 ⟨e5, h1, h2, h3, j0, j1, hb5⟩
          simp only [Act.put]
          rw [← Hstp.out] at e5 h1 h2 h3
          rw [e5] at j0
          have H5 := Lib.hid (And.intro j0 (And.intro h1 (And.intro h2 h3)))
          clear j0 h1 h2 h3 e5 c0 c1 c2' c3' hc1 hd2
          go_wp2_with fail
          go_roundw
          case rel => exact ⟨k + 1, A', c', hlt, by go_num, H5.out.1, H5.out.2.1, H5.out.2.2.1, H5.out.2.2.2, j1, hb5⟩
          case measure => simp [intOf]; omega
        case neg =>
          obtain rfl : k = L.length := by omega
          have heq : togsR G (L.take L.length) = tgL G L := by rw [List.take_length]; exact togsR_tgL Hv.out.2 Hnd.out
          obtain ⟨nH, hnH⟩ : ∃ nH, (togsR G (L.take L.length)).length = nH := ⟨_, rfl⟩
          have hnT : nH = (tgL G L).length := by rw [← hnH, heq]
          have her : tgErr n G L = 0 := by unfold tgErr; rw [if_pos Hv0.out]; exact tgE_ok Hok.out Hnd.out
          obtain ⟨c0, c1, _, _⟩ := k0.two
          obtain ⟨b0, b1, b2, b3⟩ := k1.two
          rw [heq] at hrg hfg hcg
          rw [hnH] at c1
          obtain ⟨h1, f0, f1⟩ := th_ret (N := n) (G := G) (L := L) (A2 := AG) (ln := nH) (c2 := cG) k1 hbw hrg ⟨hfg, hcg⟩ her hnT
          have H1 := Lib.hid h1
          clear h1 her hnT heq hrg hfg hcg k0 hgl hnH
          go_wp2_with fail
          refine bodyPost_ret (v := .tuple #[.agg #[.int .i64 (n : Int), .slice AG nH cG], .int .i64 0]) (by simp [results, Tryd.results26, go_sem] at f0 f1 ⊢; simp [f0, f1]) rfl ?_
          exact H1.out
end Go.Proofs.YtncimnfhfomddaaDoor
