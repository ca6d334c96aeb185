import Derived.Test.YtncimnfhfomddaaDoorTgW
namespace Go.Proofs.YtncimnfhfomddaaDoor
open Go.ChangeShapes Go.WideShapes Go.ChangeAt Go.RowKit
theorem made_map (w : World) : ∃ W', (∀ t, (Instr.makeMap t none).run Tryd.prog w = .ok (.map (some w.heap.size)) W') ∧ MpB W' w.heap.size 0 (inM []) ∧ Below w.heap.size w W' ∧ W'.heap.size = w.heap.size + 1 :=
  ⟨_, fun t => run_makeMap t w, inM_nil ▸ MpB.made w, (Below.refl _ _).alloc (Nat.le_refl _) _, by simp⟩
theorem RgB.cnt_le {w : World} {b r n cnt : Nat} {S : Int × Int → Option Bool} {todo : Int × Int → Bool} (h : RgB w b r n S todo cnt) : cnt ≤ n := by
  obtain ⟨D, left, ⟨es, clock, since, seen, c0, _, _, hs, _, _, _, hc, _⟩, _⟩ := h
  have : (leftOf es seen).size ≤ es.size := by unfold leftOf; exact Array.size_filter_le ..
  omega
theorem boxedP (w : World) (p : Int × Int) : ∃ W0, w.alloc (.cells #[.int .i64 p.1, .int .i64 p.2] 42) = W0 ∧ Blk W0 w.heap.size 42 #[.int .i64 p.1, .int .i64 p.2] ∧ Below w.heap.size w W0 ∧ W0.heap.size = w.heap.size + 1 :=
  ⟨_, rfl, Blk.new _ _ _, (Below.refl _ _).alloc (Nat.le_refl _) _, by simp⟩
theorem tg_end {N : Int} {G L : List (Int × Int)} {w X : World} {er : Int} (hk : Blk X (w.heap.size + 1) 24 #[.int .i64 0, .slice none 0 0]) (hb : Below w.heap.size w X) (he : tgErr N G L = er) (h0 : er ≠ 0) :
    RetTg N G L w (.returned (.tuple #[.agg #[.int .i64 0, .slice none 0 0], .int .i64 er])) ((X.setCell ⟨w.heap.size + 1, 0, none⟩ (.int .i64 0)).setCell ⟨w.heap.size + 1, 1, none⟩ (.slice none 0 0)) ∧
    ((X.setCell ⟨w.heap.size + 1, 0, none⟩ (.int .i64 0)).setCell ⟨w.heap.size + 1, 1, none⟩ (.slice none 0 0)).cell? ⟨w.heap.size + 1, 0, none⟩ = some (.int .i64 0) ∧
    ((X.setCell ⟨w.heap.size + 1, 0, none⟩ (.int .i64 0)).setCell ⟨w.heap.size + 1, 1, none⟩ (.slice none 0 0)).cell? ⟨w.heap.size + 1, 1, none⟩ = some (.slice none 0 0) := by
  have k := (hk.set_ 0 (.int .i64 0)).set_ 1 (.slice none 0 0)
  obtain ⟨c0, c1, _, _⟩ := k.two
  refine ⟨⟨none, 0, ?_, ?_, fun b o h => (by cases h), ?_⟩, c0, c1⟩
  · unfold tgN tgG; rw [he, if_neg h0, if_neg h0]; rfl
  · unfold tgG; rw [he, if_neg h0]; exact RP.nil _ _
  · exact (hb.setCell (p := ⟨w.heap.size + 1, 0, none⟩) (Nat.le_succ _) _).setCell (p := ⟨w.heap.size + 1, 1, none⟩) (Nat.le_succ _) _
theorem tg_ret {N : Int} {G L : List (Int × Int)} {w X : World} {A2 : Option Addr} {ln c2 : Nat} (hk : Blk X (w.heap.size + 1) 24 #[.int .i64 0, .slice none 0 0]) (hb : Below w.heap.size w X) (hp : RP X A2 (tgL G L)) (hl : ∀ b o, A2 = some ⟨b, o, none⟩ → w.heap.size + 2 ≤ b)
    (he : tgErr N G L = 0) (hn : ln = (tgL G L).length) :
    RetTg N G L w (.returned (.tuple #[.agg #[.int .i64 N, .slice A2 ln c2], .int .i64 0])) ((X.setCell ⟨w.heap.size + 1, 0, none⟩ (.int .i64 N)).setCell ⟨w.heap.size + 1, 1, none⟩ (.slice A2 ln c2)) ∧
    ((X.setCell ⟨w.heap.size + 1, 0, none⟩ (.int .i64 N)).setCell ⟨w.heap.size + 1, 1, none⟩ (.slice A2 ln c2)).cell? ⟨w.heap.size + 1, 0, none⟩ = some (.int .i64 N) ∧
    ((X.setCell ⟨w.heap.size + 1, 0, none⟩ (.int .i64 N)).setCell ⟨w.heap.size + 1, 1, none⟩ (.slice A2 ln c2)).cell? ⟨w.heap.size + 1, 1, none⟩ = some (.slice A2 ln c2) := by
  subst hn
  have k := (hk.set_ 0 (.int .i64 N)).set_ 1 (.slice A2 (tgL G L).length c2)
  obtain ⟨c0, c1, _, _⟩ := k.two
  refine ⟨⟨A2, c2, ?_, ?_, fun b o h => (by have := hl b o h; omega), ?_⟩, c0, c1⟩
  · unfold tgN tgG; rw [he, if_pos rfl, if_pos rfl]
  · unfold tgG; rw [he, if_pos rfl]; exact hp.far2 (fun b o h _ => by have := hl b o h; omega) _ _
  · exact (hb.setCell (p := ⟨w.heap.size + 1, 0, none⟩) (Nat.le_succ _) _).setCell (p := ⟨w.heap.size + 1, 1, none⟩) (Nat.le_succ _) _
set_option maxRecDepth 100000 in
set_option maxHeartbeats 4000000 in
theorem toggle_any (A A2 : Option Addr) (N : Int) (G L : List (Int × Int)) (c c2 : Nat) (w : World) (hr : RP w A G) (hr2 : RP w A2 L) (hl : G.length + L.length ≤ 100000) :
    Calls Tryd.prog 24 #[.agg #[.int .i64 N, .slice A G.length c], .slice A2 L.length c2] w (RetTg N G L w) := by
  go_enter Tryd.func24, Tryd.ntmps24
  go_wp2_with fail
  obtain ⟨W0, hW, k0, k1, hb0, hlt0⟩ := boxed2 w 24 24 (.int .i64 N) (.slice A G.length c) (.int .i64 0) (.slice none 0 0)
  rw [hW]
  have hr0 := hr.below hb0
  clear hW
  refine (gValidate_any _ _ _ _ _ hr0 (by omega)).mono ?_
  rintro e w1 ⟨rfl, hb⟩
  have j0 := k0.below hb k0.lt
  have j1 := k1.below hb k1.lt
  have hbb := endB hb0 hb
  clear k0 k1 hb0 hb hr0
  by_cases hv0 : valE N G = 0
  case neg =>
    obtain ⟨b0, b1, b2, b3⟩ := j1.two
    have hd : (valE N G != 0) = true := by simp [hv0]
    obtain ⟨h1, e0, e1⟩ := tg_end (N := N) (G := G) (L := L) j1 hbb (by unfold tgErr; rw [if_neg hv0]) hv0
    have H1 := Lib.hid h1
    clear h1
    go_wp2_with fail
    refine bodyPost_ret (v := .tuple #[.agg #[.int .i64 0, .slice none 0 0], .int .i64 (valE N G)]) (by simp [results, Tryd.results24, go_sem] at e0 e1 ⊢; simp [e0, e1]) rfl ?_
    exact H1.out
  have hd : (valE N G != 0) = false := by simp [hv0]
  obtain ⟨n, rfl, hv⟩ := vld_of_valE hv0 (by omega)
  have Hv := Lib.hid hv
  have Hv0 := Lib.hid hv0
  clear hv hv0
  obtain ⟨W2, hmm, m1, hb2, hs2⟩ := made_map w1
  have k0 := j0.below hb2 j0.lt
  have k1 := j1.below hb2 j1.lt
  have hbb2 := endB hbb hb2
  have hB1 : w.heap.size + 2 ≤ w1.heap.size := by have := j1.lt; omega
  clear hb2 hbb
  obtain ⟨c0, c1, c2', c3⟩ := k0.two
  have hi64 : ∀ k (h : k < G.length), I64 G[k] := fun k h => by have := Hv.out.1.2.2 _ (List.getElem_mem h); have := Hv.out.1.1; unfold I64; omega
  have Hi := Lib.hid hi64
  clear hi64
  go_wp2_with fail
  clear c0 c1 c2' c3 j0 j1
  generalize w1.heap.size = B1 at *
  go_loopw [28] (fun i wr => ∃ k : Nat, k ≤ G.length ∧ i = .int .i64 k ∧ MpB wr B1 k (inM (G.take k)) ∧ Blk wr w.heap.size 24 #[.int .i64 (n : Int), .slice A G.length c] ∧ Blk wr (w.heap.size + 1) 24 #[.int .i64 0, .slice none 0 0] ∧ Below w.heap.size w wr) (fun i _ => G.length - (intOf i).toNat)
  case atStart => exact ⟨0, Nat.zero_le _, rfl, m1, k0, k1, hbb2⟩
  case round =>
    clear k0 k1 m1 hbb2 hs2
    obtain ⟨k, hk, rfl, m1, k0, k1, hbw⟩ := hrel
    have hml := m1.lt
    have M1 := Lib.hid m1
    clear m1
    by_cases hlt : k < G.length
    case pos =>
      obtain ⟨b, o, rfl, hc, hd2⟩ := (hr.below hbw).at_ hlt
      obtain ⟨W4, hW4, e0, e1, hb4, hlt4⟩ := boxed wr 42 (.int .i64 G[k].1) (.int .i64 G[k].2)
      have M4 := Lib.hid (M1.out.below hb4)
      have hbw4 := endB hbw hb4
      have k04 := k0.below hb4 k0.lt
      have k14 := k1.below hb4 k1.lt
      go_wp2_with (at_mapUpdate; go_loud (refine wpList_putP _ (by rfl) _ _ _ (by rfl) B1 k _ (by rfl) M4.out (by omega) G[k] (Hi.out k hlt) true (by rfl) (by rfl) ?_); intro w5 m5 hg5; have M5 := Lib.hid m5; clear m5)
      go_roundw
      case rel => exact ⟨k + 1, hlt, by go_num, setS_inM hlt ▸ M5.out, k04.grown hg5 (by simp; omega), k14.grown hg5 (by simp; omega), hbw4.trans (below_of_grownBy hg5 (by omega) hbw4.size)⟩
      case measure => simp [intOf]; omega
    case neg =>
    obtain rfl : k = G.length := by omega
    have m1 := M1.out
    rw [List.take_length] at m1
    have hsz := hbw.size
    have M1 := Lib.hid m1
    clear m1 hk
    go_wp2_with fail
    go_loopw [37] (fun i wr => ∃ k : Nat, k ≤ L.length ∧ i = .int .i64 k ∧ (∀ p ∈ L.take k, okP n p) ∧ MpB wr B1 G.length (inM G) ∧ Blk wr w.heap.size 24 #[.int .i64 (n : Int), .slice A G.length c] ∧ Blk wr (w.heap.size + 1) 24 #[.int .i64 0, .slice none 0 0] ∧ Below w.heap.size w wr) (fun i _ => L.length - (intOf i).toNat)
    case atStart => exact ⟨0, Nat.zero_le _, rfl, (fun _ h => by simp at h), M1.out, k0, k1, hbw⟩
    case round =>
      clear k0 k1 M1 hbw hsz hlt hml
      obtain ⟨k, hk, rfl, hok, m1, k0, k1, hbw⟩ := hrel
      have M1 := Lib.hid m1
      have Hok := Lib.hid hok
      clear m1 hok
      by_cases hlt : k < L.length
      case pos =>
        obtain ⟨b, o, rfl, hc, hd2⟩ := (hr2.below hbw).at_ hlt
        obtain ⟨W4, hW4, e0, e1, hb4, hlt4⟩ := boxed wr 42 (.int .i64 L[k].1) (.int .i64 L[k].2)
        have M4 := Lib.hid (M1.out.below hb4)
        have hbw4 := endB hbw hb4
        have k04 := k0.below hb4 k0.lt
        have k14 := k1.below hb4 k1.lt
        obtain ⟨c0, c1, c2', c3⟩ := k04.two
        by_cases ho : okP n L[k]
        case pos =>
          have hok' : ∀ p ∈ L.take (k + 1), okP n p := fun p hp => by
            rcases (mem_take_succ hlt p).1 hp with rfl | hp
            · exact ho
            · exact Hok.out p hp
          have Hok' := Lib.hid hok'
          clear hok'
          obtain ⟨t1, t2, t3, t4⟩ : 0 ≤ L[k].1 ∧ L[k].1 < (n : Int) ∧ 0 ≤ L[k].2 ∧ L[k].2 < (n : Int) := ho
          go_wp2_with fail
          go_roundw
          case rel => exact ⟨k + 1, hlt, by go_num, Hok'.out, M4.out, k04, k14, hbw4⟩
          case measure => simp [intOf]; omega
        case neg =>
          have her : tgErr n G L = 1 := by unfold tgErr; rw [if_pos Hv0.out]; exact tgE_one hlt ho
          obtain ⟨h1, f0, f1⟩ := tg_end (N := n) (G := G) (L := L) k14 hbw4 her (by omega)
          have H1 := Lib.hid h1
          clear h1 her
          obtain ⟨b0, b1, b2, b3⟩ := k14.two
          by_cases t1 : L[k].1 < 0
          · go_wp2_with fail
            refine bodyPost_ret (v := .tuple #[.agg #[.int .i64 0, .slice none 0 0], .int .i64 1]) (by simp [results, Tryd.results24, go_sem] at f0 f1 ⊢; simp [f0, f1]) rfl ?_
            exact H1.out
          have t1' : 0 ≤ L[k].1 := by omega
          clear t1
          by_cases t2 : (n : Int) ≤ L[k].1
          · go_wp2_with fail
            refine bodyPost_ret (v := .tuple #[.agg #[.int .i64 0, .slice none 0 0], .int .i64 1]) (by simp [results, Tryd.results24, go_sem] at f0 f1 ⊢; simp [f0, f1]) rfl ?_
            exact H1.out
          have t2' : L[k].1 < (n : Int) := by omega
          clear t2
          by_cases t3 : L[k].2 < 0
          · go_wp2_with fail
            refine bodyPost_ret (v := .tuple #[.agg #[.int .i64 0, .slice none 0 0], .int .i64 1]) (by simp [results, Tryd.results24, go_sem] at f0 f1 ⊢; simp [f0, f1]) rfl ?_
            exact H1.out
          have t3' : 0 ≤ L[k].2 := by omega
          have t4 : (n : Int) ≤ L[k].2 := by unfold okP at ho; omega
          clear t3 ho
          go_wp2_with fail
          refine bodyPost_ret (v := .tuple #[.agg #[.int .i64 0, .slice none 0 0], .int .i64 1]) (by simp [results, Tryd.results24, go_sem] at f0 f1 ⊢; simp [f0, f1]) rfl ?_
          exact H1.out
      case neg =>
      obtain rfl : k = L.length := by omega
      have hok := Hok.out
      rw [List.take_length] at hok
      have Hok := Lib.hid hok
      clear hok hk
      obtain ⟨W3, hmm3, m2, hb3, hs3⟩ := made_map wr
      have M3 := Lib.hid (M1.out.below hb3)
      have k03 := k0.below hb3 k0.lt
      have k13 := k1.below hb3 k1.lt
      have hbw3 := endB hbw hb3
      have hBB : B1 < wr.heap.size := M1.out.lt
      have hiL : ∀ k (h : k < L.length), I64 L[k] := fun k h => okP_i64 (Nat.le_trans Hv.out.1.1 (by decide)) (Hok.out _ (List.getElem_mem h))
      have HiL := Lib.hid hiL
      clear hiL hb3 M1 k0 k1 hbw hlt
      go_wp2_with fail
      generalize wr.heap.size = B2 at *
      go_loopw [68] (fun i wr => ∃ k : Nat, k ≤ L.length ∧ i = .int .i64 k ∧ (L.take k).Nodup ∧ MpB wr B2 k (inM (L.take k)) ∧ MpB wr B1 (G.length + k) (tgM G (L.take k)) ∧ Blk wr w.heap.size 24 #[.int .i64 (n : Int), .slice A G.length c] ∧ Blk wr (w.heap.size + 1) 24 #[.int .i64 0, .slice none 0 0] ∧ Below w.heap.size w wr) (fun i _ => L.length - (intOf i).toNat)
      case atStart => exact ⟨0, Nat.zero_le _, rfl, by simp, m2, by rw [List.take_zero, tgM_nil]; exact M3.out, k03, k13, hbw3⟩
      case round =>
        clear k03 k13 m2 M3 hbw3 hs3 hmm3
        obtain ⟨k, hk, rfl, hnd, m2, m1, k0, k1, hbw⟩ := hrel
        have M1 := Lib.hid m1
        have M2 := Lib.hid m2
        have Hnd := Lib.hid hnd
        clear m1 m2 hnd
        by_cases hlt : k < L.length
        case pos =>
          obtain ⟨b, o, rfl, hc, hd2⟩ := (hr2.below hbw).at_ hlt
          obtain ⟨W4, hW4, kp, hb4, hlt4⟩ := boxedP wr L[k]
          have M14 := Lib.hid (M1.out.below hb4)
          have M24 := Lib.hid (M2.out.below hb4)
          have hbw4 := endB hbw hb4
          have k04 := k0.below hb4 k0.lt
          have k14 := k1.below hb4 k1.lt
          obtain ⟨e0, e1, _, _⟩ := kp.two
          have hm1 := M1.out.lt
          have hm2 := M2.out.lt
          clear M1 M2 k0 k1
          by_cases hin : L[k] ∈ L.take k
          case pos =>
            have hs : (inM (L.take k) L[k]).getD false = true := by rw [inM_get]; exact decide_eq_true hin
            have Hs := Lib.hid hs
            have her : tgErr n G L = 5 := by unfold tgErr; rw [if_pos Hv0.out]; exact tgE_five Hok.out hlt hin
            obtain ⟨h1, f0, f1⟩ := tg_end (N := n) (G := G) (L := L) k14 hbw4 her (by omega)
            have H1 := Lib.hid h1
            clear h1 her hs hin
            obtain ⟨b0, b1, b2, b3⟩ := k14.two
            go_wp2_with (at_lookup; go_loud (refine wpList_lookP _ (by rfl) _ _ (by rfl) B2 k _ (by rfl) M24.out L[k] (HiL.out k hlt) (by rfl) ?_); rw [Hs.out])
            refine bodyPost_ret (v := .tuple #[.agg #[.int .i64 0, .slice none 0 0], .int .i64 5]) (by simp [results, Tryd.results24, go_sem] at f0 f1 ⊢; simp [f0, f1]) rfl ?_
            exact H1.out
          case neg =>
          have hs : (inM (L.take k) L[k]).getD false = false := by rw [inM_get]; exact decide_eq_false hin
          have Hs := Lib.hid hs
          have Hnd' := Lib.hid (nodup_take hlt Hnd.out hin)
          have Hst := Lib.hid (setS_tgM (G := G) hlt hin)
          clear hs hin Hnd
          go_wp2_with (at_lookup; go_loud (refine wpList_lookP _ (by rfl) _ _ (by rfl) B2 k _ (by rfl) M24.out L[k] (HiL.out k hlt) (by rfl) ?_); rw [Hs.out])
          clear hW4
          refine wp_region_textB [6, 8, 9] (fun w' => Below w.heap.size w w' ∧ Blk w' w.heap.size 24 #[.int .i64 (n : Int), .slice A G.length c] ∧ Blk w' (w.heap.size + 1) 24 #[.int .i64 0, .slice none 0 0] ∧ Blk w' wr.heap.size 42 #[.int .i64 L[k].1, .int .i64 L[k].2]) (fun w' => MpB w' B2 k (inM (L.take k)) ∧ MpB w' B1 (G.length + k) (tgM G (L.take k))) (by kernel_rfl) (by kernel_rfl) (by kernel_rfl) ⟨hbw4.drew, k04, k14, kp⟩ ⟨M24.out.drew, M14.out.drew⟩ ?_
          repeat (first
            | (refine TxtBL.skip (by rfl) ?_; simp only [Act.put, List.setIfInBounds_toArray, List.set_cons_zero, List.set_cons_succ])
            | (refine TxtBL.take (by rfl) (by rfl) ?_; apply Exists.intro; refine ⟨fun w1 hS1 => ?_, ?_⟩; (focus ((obtain ⟨_, _, _, hpb⟩ := hS1); (obtain ⟨g0, g1, _, _⟩ := hpb.two); go_simp; with_reducible rfl)); simp only [Act.put, List.setIfInBounds_toArray, List.set_cons_zero, List.set_cons_succ])
            | (refine TxtBL.takeE (by rfl) (by rfl) ?_; apply Exists.intro; refine ⟨fun w1 hS1 => ?_, ?_⟩; (focus ((obtain ⟨_, _, _, hpb⟩ := hS1); (obtain ⟨g0, g1, _, _⟩ := hpb.two); go_simp; with_reducible rfl)); simp only [Act.put, List.setIfInBounds_toArray, List.set_cons_zero, List.set_cons_succ]))
          refine TxtBL.lookP (by rfl) (by rfl) _ _ (by rfl) B1 (G.length + k) (tgM G (L.take k)) L[k] (HiL.out k hlt) (by rfl) (by rfl) (fun w' _ hJ => hJ.2) ?_
          simp only [Act.put, List.setIfInBounds_toArray, List.set_cons_zero, List.set_cons_succ]
          repeat (first
            | (refine TxtBL.skip (by rfl) ?_; simp only [Act.put, List.setIfInBounds_toArray, List.set_cons_zero, List.set_cons_succ])
            | (refine TxtBL.take (by rfl) (by rfl) ?_; apply Exists.intro; refine ⟨fun w1 hS1 => ?_, ?_⟩; (focus (skip; go_simp; with_reducible rfl)); simp only [Act.put, List.setIfInBounds_toArray, List.set_cons_zero, List.set_cons_succ])
            | (refine TxtBL.takeE (by rfl) (by rfl) ?_; apply Exists.intro; refine ⟨fun w1 hS1 => ?_, ?_⟩; (focus (skip; go_simp; with_reducible rfl)); simp only [Act.put, List.setIfInBounds_toArray, List.set_cons_zero, List.set_cons_succ]))
          refine TxtBL.putP (by rfl) (by rfl) _ _ _ (by rfl) B2 k (inM (L.take k)) (by omega) L[k] (HiL.out k hlt) true (by rfl) (by rfl) (by rfl) (fun w' => MpB w' B2 (k + 1) (inM (L.take (k + 1))) ∧ MpB w' B1 (G.length + k) (tgM G (L.take k))) (fun w' _ hJ => hJ.1)
            (fun w' w2 hS hJ hm hg => ⟨⟨hS.1.trans (below_of_grownBy hg (by omega) hS.1.size), hS.2.1.grown hg (by simp; omega), hS.2.2.1.grown hg (by simp; omega), hS.2.2.2.grown hg (by simp; omega)⟩, setS_inM hlt ▸ hm, hJ.2.kept hg (by simp; omega)⟩) ?_
          simp only [Act.put]
          refine TxtBL.putP (by rfl) (by rfl) _ _ _ (by rfl) B1 (G.length + k) (tgM G (L.take k)) (by omega) L[k] (HiL.out k hlt) (!(tgM G (L.take k) L[k]).getD false) (by rfl) (by rfl) (by rfl) (fun w' => MpB w' B2 (k + 1) (inM (L.take (k + 1))) ∧ MpB w' B1 (G.length + k + 1) (tgM G (L.take (k + 1)))) (fun w' _ hJ => hJ.2)
            (fun w' w2 hS hJ hm hg => ⟨⟨hS.1.trans (below_of_grownBy hg (by omega) hS.1.size), hS.2.1.grown hg (by simp; omega), hS.2.2.1.grown hg (by simp; omega), hS.2.2.2.grown hg (by simp; omega)⟩, hJ.1.kept hg (by simp; omega), Hst.out ▸ hm⟩) ?_
          simp only [Act.put]
          refine TxtBL.nil (fun B hS hJ => ?_)
          obtain ⟨hbB, kB0, kB1, _⟩ := hS
          have HJ := Lib.hid hJ
          clear hJ M14 M24 k04 k14 kp
          go_wp2
          go_roundw
          case rel => exact ⟨k + 1, hlt, by go_num, Hnd'.out, HJ.out.1, HJ.out.2, kB0, kB1, hbB⟩
          case measure => simp [intOf]; omega
        case neg =>
        obtain rfl : k = L.length := by omega
        have m1 := M1.out
        have hnd := Hnd.out
        rw [List.take_length] at m1 hnd
        have M1 := Lib.hid m1
        have Hnd := Lib.hid hnd
        have hBw := m1.lt
        clear m1 hnd M2 hk hlt
        obtain ⟨c0, c1, c2', c3⟩ := k0.two
        obtain ⟨W6, hW6, kg, hb6, hs6⟩ : ∃ W6, wr.alloc (.cells #[.int .i64 (n : Int), .slice none 0 0] 24) = W6 ∧ Blk W6 wr.heap.size 24 #[.int .i64 (n : Int), .slice none 0 0] ∧ Below wr.heap.size wr W6 ∧ W6.heap.size = wr.heap.size + 1 := ⟨_, rfl, Blk.new _ _ _, newB _ _, by simp⟩
        have M6 := Lib.hid (M1.out.below hb6)
        have k16 := k1.below hb6 k1.lt
        have hbw6 := endB hbw hb6
        have HW6 := Lib.hid hW6
        clear hW6
        go_wp2_with (first | (at_range; rw [HW6.out]; go_loud (refine wpList_rangeP W6 (by rfl) _ (by rfl) B1 (G.length + L.length) (tgM G L) (by rfl) M6.out ?_); intro w7 cnt0 hrg7 hg7 hs7))
        go_frame
        have kg7 := kg.grown hg7 (by simp)
        have k17 := k16.grown hg7 (by simp)
        have hbw7 := hbw6.trans (below_of_grownBy (World.grownBy.but hg7 (some W6.heap.size)) hbw6.size hbw6.size)
        clear HW6 M6 k0 k1 hbw hb6 M1 c0 c1 c2' c3 kg k16 hbw6
        rw [hs6] at hrg7 hs7 ⊢
        obtain ⟨K, hKR⟩ : ∃ K, wr.heap.size + 1 + 1 = K := ⟨_, rfl⟩
        rw [hKR] at hs7
        have hBwr : w.heap.size + 1 < wr.heap.size := by omega
        generalize wr.heap.size = g at *
        go_loopw [17] (fun x wr => ∃ (out : List (Int × Int)) (todo : Int × Int → Bool) (cnt : Nat) (v : Value), RgB wr B1 (g + 1) (G.length + L.length) (tgM G L) todo cnt ∧ out.Nodup ∧ (∀ p ∈ out, I64 p ∧ todo p = false ∧ (tgM G L p).getD false = true) ∧ (∀ p, I64 p → todo p = false → (tgM G L p).getD false = true → p ∈ out) ∧ out.length + cnt ≤ G.length + L.length ∧
          OwnP wr K v out ∧ Blk wr g 24 #[.int .i64 (n : Int), v] ∧ Blk wr (w.heap.size + 1) 24 #[.int .i64 0, .slice none 0 0] ∧ K ≤ wr.heap.size ∧ Below w.heap.size w wr) (fun _ wr => wr.rangeLeft B1 (g + 1))
        case atStart => exact ⟨[], _, cnt0, _, hrg7, List.nodup_nil, (fun p h => by cases h), (fun p _ h1 h2 => by cases hx : tgM G L p with
          | none => rw [hx] at h2; cases h2
          | some y => rw [hx] at h1; cases h1), by simpa using hrg7.cnt_le, OwnP.nil _ _, kg7, k17, Nat.le_of_eq hs7.symm, hbw7⟩
        case round =>
          clear kg7 k17 hrg7 hbw7 hs7 hg7
          obtain ⟨out, todo, cnt, v, hrg, hon, hoi, hoa, hlen, hown, kg, k1, hK, hbw⟩ := hrel
          have Hon := Lib.hid hon; have Hoi := Lib.hid hoi; have Hoa := Lib.hid hoa; have Hown := Lib.hid hown; have Hrg := Lib.hid hrg
          have hleft := hrg.left_eq
          obtain ⟨hl1, hl2⟩ := hrg.lt
          clear hon hoi hoa hown hrg
          obtain ⟨AV, cV, hvv, hrv, hnv⟩ := Hown.out.form
          subst hvv
          obtain ⟨f0, f1, f2, f3⟩ := kg.two
          have hgK : g < K := by omega
          have hl6 : out.length ≤ 1000000 := by omega
          have hB1g : B1 < g := hBw
          have hnK : ∀ b, (Value.slice AV out.length cV).ownBlock = some b → K ≤ b ∧ b < wr.heap.size := fun b hb => World.ownsRow.lt Hown.out b hb
          have HnK := Lib.hid hnK
          clear hnK
          go_wp2_with (first
            | (at_next; go_loud (refine wpList_nextP wr (by rfl) _ (by rfl) B1 (g + 1) (G.length + L.length) cnt (tgM G L) todo (by rfl) Hrg.out (fun hdone => ?_) (fun p w1 cnt1 hi htd hrg1 hlt1 hg1 hs1 hen => ?_)); rotate_left; focus (
                (obtain ⟨y, hx⟩ : ∃ y, (tgM G L p).getD false = y := ⟨_, rfl⟩); (rw [hx] at hen ⊢);
                (obtain ⟨W4, hW4, kp, hb4, hlt4⟩ := boxedP w1 p);
                (have Hown4 := Lib.hid (ownsRow_below (World.ownsRow.kept Hown.out hg1 (.inr (fun h => by have := HnK.out _ h; omega))) hb4 : OwnP W4 K _ _));
                (have Hrg4 := Lib.hid (hrg1.below hb4));
                (have kg4 := (kg.grown hg1 (by simp)).below hb4 (by have := kg.lt; omega));
                (have k14 := (k1.grown hg1 (by simp; omega)).below hb4 (by have := k1.lt; omega));
                (have hbw4 := hbw.trans ((below_of_grownBy hg1 (by omega) hbw.size).trans (hb4.mono (by have := hbw.size; omega))));
                (have hK4 : K ≤ W4.heap.size := by omega);
                (obtain ⟨e0, e1, _, _⟩ := kp.two); (rw [hs1] at e0 e1); (clear f0 f1 f2 f3 hrg1); (obtain ⟨f0, f1, f2, f3⟩ := kg4.two); cases y))
            | (at_builtin; go_loud (refine wpList_appP2 (by rfl) _ _ (by rfl) W4 K _ out p.1 p.2 Hown4.out (by rfl) (by rfl) (by omega) hl6 hK4 ?_); intro v' w5 hown5 hb5 hg5; (obtain ⟨A5, c5, rfl, _, _⟩ := OwnP.form hown5); have kg5 := kg4.append Hown4.out hg5 hgK; (obtain ⟨b0, b1, b2, b3⟩ := kg5.two); have Hown5 := Lib.hid hown5; clear hown5))
          · clear e0 e1 f0 f1 f2 f3 hW4
            go_roundw
            case rel => exact ⟨out, _, cnt1, _, Hrg4.out, Hon.out, (fun q hq => by obtain ⟨h1, h2, h3⟩ := Hoi.out q hq; exact ⟨h1, by simp [h2], h3⟩), (fun q hq h2 h3 => by
              by_cases e : q = p
              · subst e; rw [hx] at h3; cases h3
              · exact Hoa.out q hq (by simpa [e] using h2) h3), by omega, Hown4.out, kg4, k14, hK4, hbw4⟩
            case measure => rw [Hrg4.out.left_eq, hleft]; exact hlt1
          · have hown6 : OwnP w5 K (.slice A5 (out.length + 1) c5) (out ++ [p]) := by have h := Hown5.out; rw [List.length_append] at h; exact h
            have hg6 := grownBy_setCell w5 g 1 (.slice A5 (out.length + 1) c5)
            have hnb : ∀ b, b < K → some b ≠ (Value.slice AV out.length cV).ownBlock := fun b hb h => by have := HnK.out _ h.symm; omega
            have hrg6 := (Hrg4.out.kept hg5 (hnb _ (by omega)) (hnb _ (by omega))).kept hg6 (by simp; omega) (by simp)
            have hpo : p ∉ out := fun h => by have := (Hoi.out p h).2.1; rw [htd] at this; cases this
            clear b0 b1 b2 b3
            go_roundw
            case rel => exact ⟨out ++ [p], _, cnt1, .slice A5 (out.length + 1) c5, hrg6, List.nodup_append.2 ⟨Hon.out, by simp, fun a ha b hb e => by rw [List.mem_singleton] at hb; subst hb; subst e; exact hpo ha⟩,
              (fun q hq => by
                rcases List.mem_append.1 hq with hq | hq
                · obtain ⟨h1, h2, h3⟩ := Hoi.out q hq; exact ⟨h1, by simp [h2], h3⟩
                · rw [List.mem_singleton] at hq; subst hq; exact ⟨hi, by simp, hx⟩), (fun q hq h2 h3 => by
                by_cases e : q = p
                · subst e; exact List.mem_append_right _ (List.mem_singleton.2 rfl)
                · exact List.mem_append_left _ (Hoa.out q hq (by simpa [e] using h2) h3)), by rw [List.length_append]; simp; omega,
              ownsRow_setCell_below hown6 (a := ⟨g, 1, none⟩) hgK _, kg5.set_ 1 (.slice A5 (out.length + 1) c5), (k14.append Hown4.out hg5 (by omega)).far (p := ⟨g, 1, none⟩) (by show w.heap.size + 1 ≠ g; omega) _,
              by simp [World.setCell]; exact Nat.le_trans hK4 hb5.size, (hbw4.trans (hb5.mono (by omega))).setCell (p := ⟨g, 1, none⟩) (by show w.heap.size ≤ g; omega) _⟩
            case measure => rw [hrg6.left_eq, hleft]; exact hlt1
          have hI : ∀ p : Int × Int, (decide (p ∈ G) != decide (p ∈ L)) = true → I64 p := fun p h => by
            by_cases hG : p ∈ G
            · have h1 := Hv.out.1.2.2 p hG; have h2 := Hv.out.1.1; unfold I64; omega
            · exact okP_i64 (Nat.le_trans Hv.out.1.1 (by decide)) (Hok.out p (by simpa [hG] using h))
          have hout : ∀ p, p ∈ out ↔ (decide (p ∈ G) != decide (p ∈ L)) = true := fun p =>
            ⟨fun h => by have h1 := (Hoi.out p h).2.2; rw [tgM_get] at h1; exact h1, fun h => Hoa.out p (hI p h) (hdone p (hI p h)) (by rw [tgM_get]; exact h)⟩
          have hsr : srtP out = tgL G L := srtP_tgL (vld_nodup Hv.out) Hnd.out Hon.out hout
          have her : tgErr n G L = 0 := by unfold tgErr; rw [if_pos Hv0.out]; exact tgE_ok Hok.out Hnd.out
          have hlno : out.length = (tgL G L).length := by rw [← hsr, srtP_len]
          have hlocV : ∀ b o, AV = some ⟨b, o, none⟩ → w.heap.size + 2 ≤ b := fun b o h => by subst h; have := (World.ownsRow.lt Hown.out b rfl).1; omega
          have Her := Lib.hid her; have Hsr := Lib.hid hsr; have Hlno := Lib.hid hlno
          clear hout hI her hsr hlno hdone
          by_cases hz : out.length = 0
          · obtain rfl : out = [] := List.eq_nil_of_length_eq_zero hz
            refine (sortE_none AV cV wr).mono ?_
            rintro e X ⟨rfl, rfl⟩
            obtain ⟨r0, r1, r2, r3⟩ := k1.two
            have hp0 : RP wr AV (tgL G L) := by rw [← Hsr.out, show srtP [] = [] by simp [srtP]]; exact RP.nil _ _
            obtain ⟨h1, e0, e1⟩ := tg_ret (N := n) (ln := 0) (c2 := cV) k1 hbw hp0 hlocV Her.out (by rw [← Hlno.out, hz])
            have H1 := Lib.hid h1
            clear h1 hp0
            go_wp2_with fail
            refine bodyPost_ret (v := .tuple #[.agg #[.int .i64 (n : Int), .slice AV 0 cV], .int .i64 0]) (by simp [results, Tryd.results24, go_sem] at e0 e1 ⊢; simp [e0, e1]) rfl ?_
            exact H1.out
          · obtain ⟨q, hAV, hgB⟩ : ∃ q, AV = some ⟨q, 0, none⟩ ∧ K ≤ q := by
              rcases Hown.out.2 with ⟨e, h0⟩ | ⟨q, cap, cur, e, hg, _⟩
              · omega
              · injection e with e1 _ _; exact ⟨q, e1, hg⟩
            subst hAV
            have hgw : q < wr.heap.size := (World.ownsRow.lt Hown.out q rfl).2
            have hH := holds_of_own (l := out) Hown.out
            have HH := Lib.hid hH
            refine (sortE_any q cV out wr hH hgw (by omega)).mono ?_
            rintro e X ⟨rfl, q2, os, hX⟩
            obtain ⟨hs1, hs2⟩ := sorted_world (n := q2) (d := (out.mergeSort fun x y => !(ltOf cmpP) y x).toArray) (os := os) hgw
            have hHX := holdsK_sortWorldK_c encP 2 wr q 0 out.toArray (out.mergeSort fun x y => !(ltOf cmpP) y x).toArray q2 os HH.out hgw (by simp)
            rw [← hX] at hs1 hs2 hHX
            have hrX : RP X (some ⟨q, 0, none⟩) (tgL G L) := Hsr.out ▸ rp_of_holds hHX
            have kgX := kg.grown hs1 (by simp; omega)
            have k1X := k1.grown hs1 (by simp; omega)
            have hbX := hbw.trans (hs2 w.heap.size (by omega))
            clear hX hs1 hs2 hHX HH hH f0 f1 f2 f3
            obtain ⟨f0, f1, _, _⟩ := kgX.two
            obtain ⟨r0, r1, r2, r3⟩ := k1X.two
            obtain ⟨h1, e0, e1⟩ := tg_ret (N := n) (ln := out.length) (c2 := cV) k1X hbX hrX hlocV Her.out Hlno.out
            have H1 := Lib.hid h1
            clear h1
            go_wp2_with fail
            refine bodyPost_ret (v := .tuple #[.agg #[.int .i64 (n : Int), .slice (some ⟨q, 0, none⟩) out.length cV], .int .i64 0]) (by simp [results, Tryd.results24, go_sem] at e0 e1 ⊢; simp [e0, e1]) rfl ?_
            exact H1.out
end Go.Proofs.YtncimnfhfomddaaDoor
