/- search.finder: settle, labels, find. -/
import Derived.Test.YtcpombepajapjaaGreatDoorArrD
import Derived.Test.YtcpombepajapjaaGreatDoorTxtZ
import Derived.Test.YtcpombepajapjaaGreatDoorLb
namespace Go.Proofs.YtcpombepajapjaaGreatDoor
open Go.ChangeShapes Go.WideShapes Go.ChangeAt Go.RowKit

/-- the labels that a finder's block holds -/
def dOf (w : World) (f : Nat) (k : Nat) : Nat := match w.cell? ⟨f, 2 + k, none⟩ with
  | some (.int _ x) => x.toNat
  | _ => 0
theorem Fnd.dOf {w : World} {f n : Nat} {vat v : Value} {D : Nat → Nat} {full : Bool} (h : Fnd w f n vat D v full) {k : Nat} (hk : k < 40) : dOf w f k = D k := by
  unfold Proofs.YtcpombepajapjaaGreatDoor.dOf
  rw [h.at_ hk]
  simp
theorem sumD_congr {A B : Nat → Nat} : ∀ (n : Nat), (∀ k, k < n → A k = B k) → sumD n A = sumD n B
  | 0, _ => rfl
  | n + 1, h => by rw [sumD_succ, sumD_succ, sumD_congr n fun k hk => h k (by omega), h n (by omega)]
theorem Fnd.sum {w : World} {f n : Nat} {vat v : Value} {D : Nat → Nat} {full : Bool} (h : Fnd w f n vat D v full) (hn : n ≤ 40) : sumD n (Proofs.YtcpombepajapjaaGreatDoor.dOf w f) = sumD n D :=
  sumD_congr n fun k hk => h.dOf (by omega)
/-- the call says whether each node has a label left; what was struck is in no labelling -/
def RetSt (f n : Nat) (l : List (Int × Int)) (vat : Value) (D : Nat → Nat) (v : Value) (full : Bool) (w : World) : Ending → World → Prop := fun e w' => ∃ (E : Nat → Nat) (b : Bool), e = .returned (.bool b) ∧ Fnd w' f n vat E v full ∧ w.grownBy w' (some f) ∧ subD E D ∧
  (b = true → fixD n l E ∧ (∀ i, i < n → E i ≠ 0) ∧ solL n l E = solL n l D) ∧ (b = false → solL n l D = [])

theorem m3_le : ∀ a b c : Bool, m3V a b c ≤ 14 := by decide
theorem poss_le (D : Nat → Nat) (a : List Int) : possN D a ≤ 14 := by rw [poss_m3]; exact m3_le _ _ _

set_option maxRecDepth 100000 in
set_option maxHeartbeats 8000000 in
theorem settle_any (f n B : Nat) (l : List (Int × Int)) (AT : Option Addr) (cA : Nat) (D : Nat → Nat) (v : Value) (full : Bool) (w : World) (h : FSt w f n B l AT cA D v full) :
    Calls Tryz.prog 84 #[.pointer (some ⟨f, 0, none⟩)] w (RetSt f n l (.slice AT n cA) D v full w) := by
  have hn := h.hv.1
  have H := Lib.hid h
  have hF := h.fin
  have hfl := Blk.lt hF
  have htop := h.top
  clear h
  go_enter Tryz.func84, Tryz.ntmps84
  go_wp2_with fail
  go_loopw [3] (fun s3 wr => ∃ E, Fnd wr f n (.slice AT n cA) E v full ∧ w.grownBy wr (some f) ∧ subD E D ∧ solL n l E = solL n l D) (fun _ wr => sumD n (dOf wr f))
  case atStart => exact ⟨D, hF, grownBy_refl _ _, subD.refl D, rfl⟩
  case round =>
    obtain ⟨E, hE, hg, hsE, hsol⟩ := hrel
    clear hF
    have Hsol := Lib.hid hsol; have HsE := Lib.hid hsE; have HE := Lib.hid hE; have Hg := Lib.hid hg
    have e0 := hE.c0
    have hfr := Blk.lt hE
    clear hsol hsE hE hg
    go_upto_region 2 with (first | (refine wpList_loadD (by rfl) _ (by rfl) (by rfl) (fun k hk => HE.out.at_ hk) ?_) | (refine wpList_storeN (by rfl) _ _ (by rfl) (by rfl) (by rfl) (by rfl) ?_))
    obtain ⟨wo, hwo⟩ : ∃ wo, wo = wr := ⟨_, rfl⟩
    subst hwo
    obtain ⟨W1, hW1, kS, hb1, hs1⟩ : ∃ W1, wo.alloc (.cells (dC E) 82) = W1 ∧ Blk W1 wo.heap.size 82 (dC E) ∧ Below wo.heap.size wo W1 ∧ W1.heap.size = wo.heap.size + 1 := ⟨_, rfl, Blk.new _ _ _, newB _ _, by simp⟩
    rw [hW1]
    clear hW1 e0
    have hE1 : Fnd W1 f n (.slice AT n cA) E v full := Blk.below HE.out hb1 hfr
    have hgW := grownBy_trans Hg.out (grownBy_of_below hb1 (some f))
    have e0 := hE1.c0
    generalize wo.heap.size = S at *
    clear hb1
    go_wp2_with fail
    go_loopw [13] (fun j wr => ∃ (k : Nat) (G : Nat → Nat), k ≤ n ∧ j = .int .i64 k ∧ Fnd wr f n (.slice AT n cA) G v full ∧ W1.grownBy wr (some f) ∧ RoundD n l E G k) (fun j _ => n - (intOf j).toNat)
    case atStart => exact ⟨0, E, Nat.zero_le _, rfl, hE1, grownBy_refl _ _, RoundD.start n l E⟩
    case round =>
      obtain ⟨k, G, hk, rfl, hG, hgq, hR⟩ := hrel
      clear hE1 e0
      have hsub := hR.sub.trans HsE.out
      have hst : FSt wr f n B l AT cA G v full := H.out.upd hsub hG (grownBy_trans hgW hgq)
      have hGl := Blk.lt hG
      have e0 := hG.c0
      have Hst := Lib.hid hst; have HR := Lib.hid hR; have Hsub := Lib.hid hsub; have HG := Lib.hid hG; have Hgq := Lib.hid hgq
      clear hst hR hsub hG hgq
      by_cases hkn : k < n
      case pos =>
        have hk40 : k < 40 := by omega
        have hk40' : (k : Int) < 40 := by omega
        have hk0' : (0 : Int) ≤ (k : Int) := by omega
        have hkn' : (k : Int) < (n : Int) := by omega
        have hand : bits .and .i64 (G k : Int) (possN G (attackersL l (k : Int)) : Int) = ((G k &&& possN G (attackersL l (k : Int)) : Nat) : Int) := i64_and_small (full_le Hst.out.top k) (poss_le _ _)
        go_wp2_with fail
        refine wp_region_textZ [8, 9, 13] (fun w' => Below wr.heap.size wr w') (fun _ => True) (by kernel_rfl) (by kernel_rfl) (by kernel_rfl) (by kernel_rfl) (Below.refl _ _).drew trivial ?_
        clear e0
        repeat (first
          | (refine TxtZL.skip (by rfl) ?_; simp only [Act.put, List.setIfInBounds_toArray, List.set_cons_zero, List.set_cons_succ])
          | (refine TxtZL.take (by rfl) (by rfl) ?_; apply Exists.intro; refine ⟨fun w1 hS1 => ?_, ?_⟩; (focus ((have g1 := Fnd.at_ (Blk.below HG.out hS1 hGl) hk40); go_simp; with_reducible rfl)); simp only [Act.put, List.setIfInBounds_toArray, List.set_cons_zero, List.set_cons_succ])
          | (refine TxtZL.takeE' (by rfl) (by rfl) ?_; apply Exists.intro; refine ⟨fun w1 hS1 => ?_, ?_⟩; (focus ((have g1 := Fnd.at_ (Blk.below HG.out hS1 hGl) hk40); go_simp; with_reducible rfl)); simp only [Act.put, List.setIfInBounds_toArray, List.set_cons_zero, List.set_cons_succ]))
        refine TxtZL.call (f := 93) (args := #[.pointer (some ⟨f, 0, none⟩), .int .i64 (k : Int)]) (fun v => v = Value.int .i64 (possN G (attackersL l (k : Int)) : Int)) (fun _ _ => True) (by rfl) (by rfl) ⟨_, rfl⟩ (fun w1 hS1 _ => by go_simp) (fun w1 hS1 _ => ?_) ?_
        · refine (possible_any f n B l AT cA G v full k w1 (Hst.out.below hS1) hkn).mono ?_
          rintro e w' ⟨rfl, hb⟩
          exact ⟨_, rfl, endB hS1 hb, rfl, trivial⟩
        rintro v24 rfl
        simp only [Act.put, List.setIfInBounds_toArray, List.set_cons_zero, List.set_cons_succ]
        repeat (first
          | (refine TxtZL.skip (by rfl) ?_; simp only [Act.put, List.setIfInBounds_toArray, List.set_cons_zero, List.set_cons_succ])
          | (refine TxtZL.take (by rfl) (by rfl) ?_; apply Exists.intro; refine ⟨fun w1 hS1 => ?_, ?_⟩; (focus ((have g1 := Fnd.at_ (Blk.below HG.out hS1 hGl) hk40); go_simp; with_reducible rfl)); simp only [Act.put, List.setIfInBounds_toArray, List.set_cons_zero, List.set_cons_succ])
          | (refine TxtZL.takeE' (by rfl) (by rfl) ?_; apply Exists.intro; refine ⟨fun w1 hS1 => ?_, ?_⟩; (focus ((have g1 := Fnd.at_ (Blk.below HG.out hS1 hGl) hk40); go_simp; with_reducible rfl)); simp only [Act.put, List.setIfInBounds_toArray, List.set_cons_zero, List.set_cons_succ]))
        refine TxtZL.last (fun w' => Fnd w' f n (.slice AT n cA) (strikeD l G k) v full ∧ W1.grownBy w' (some f)) (by rfl) (by rfl) (fun w1 hS1 _ => ?_) ?_
        · have hF3 : Fnd w1 f n (.slice AT n cA) G v full := Blk.below HG.out hS1 hGl
          have hfz := hF3.frozen (2 + k)
          have hcf := hF3.at_ hk40
          exact Eff.skip (w' := w1.setCell ⟨f, 2 + k, none⟩ (.int .i64 ((G k &&& possN G (attackersL l (k : Int)) : Nat) : Int))) (by go_simp) ⟨hF3.put hk40 _, grownBy_trans Hgq.out (grownBy_trans (grownBy_of_below hS1 _) (grownBy_setCell _ f (2 + k) _))⟩
        rintro v0 w1 ⟨hF1, hg1⟩
        have hcd := hF1.at_ hk40
        have hsub1 := (strike_sub l G k).trans Hsub.out
        have hst1 : FSt w1 f n B l AT cA (strikeD l G k) v full := H.out.upd hsub1 hF1 (grownBy_trans hgW hg1)
        have Hst1 := Lib.hid hst1; have HF1 := Lib.hid hF1; have Hg1 := Lib.hid hg1; have Hsub1 := Lib.hid hsub1
        clear hst1 hF1 hg1 hand hsub1
        by_cases hz : strikeD l G k k = 0
        · have hzb : ((strikeD l G k k : Int) == 0) = true := by rw [hz]; rfl
          have Hz := Lib.hid hz
          clear hz
          go_wp2_with fail
          go_ret
          exact ⟨_, false, rfl, HF1.out, grownBy_trans hgW Hg1.out, Hsub1.out, (fun h => by cases h), fun _ => by rw [← Hsol.out]; exact HR.out.struck H.out.hv hkn hkn Hz.out⟩
        · have hzb : ((strikeD l G k k : Int) == 0) = false := by simp; omega
          clear hz
          go_wp2_with fail
          refine (limit_any f n B l AT cA (strikeD l G k) v full k w1 Hst1.out hkn).mono ?_
          rintro e w2 ⟨rfl, hF2, hg2⟩
          have HF2 := Lib.hid hF2; have Hg2 := Lib.hid hg2
          clear hF2 hg2 hcd
          go_wp2_with fail
          go_roundw
          case rel => exact ⟨k + 1, stepD l G k, by omega, by go_num, HF2.out, grownBy_trans Hg1.out Hg2.out, HR.out.step H.out.hv hkn⟩
          case measure => simp [intOf]; omega
      case neg =>
      obtain rfl : k = n := by omega
      clear hkn hk
      obtain ⟨W0, hW0⟩ : ∃ W0, W0 = wr := ⟨_, rfl⟩
      subst hW0
      have hri : RI W0 (some ⟨f, 2, none⟩) (lst k fun i => (G i : Int)) := fun j hj => by
        rw [lst_length] at hj
        exact ⟨f, 2, rfl, by rw [HG.out.at_ (by omega), lst_getD hj]⟩
      have hcn : ∀ w1, Below W0.heap.size W0 w1 → Calls Tryz.prog 52 #[.slice (some ⟨f, 2, none⟩) k 40, .int .i64 0] w1 (Ret (.bool (inB (lst k fun i => (G i : Int)) 0)) w1) := fun w1 hb => by
        have := containsI_any (some ⟨f, 2, none⟩) (lst k fun i => (G i : Int)) 40 0 w1 (hri.below hb) (by rw [lst_length]; omega)
        rw [lst_length] at this; exact this
      have Hcn := Lib.hid hcn
      clear hcn hri
      obtain ⟨z, hz⟩ : ∃ z, inB (lst k fun i => (G i : Int)) 0 = z := ⟨_, rfl⟩
      have hz2 : (∃ i, i < k ∧ G i = 0) ↔ z = true := by
        rw [← hz, inB_iff]
        unfold lst
        rw [List.mem_map]
        constructor
        · rintro ⟨i, hi, e⟩; exact ⟨i, List.mem_range.2 hi, by rw [e]; rfl⟩
        · rintro ⟨i, hi, e⟩; exact ⟨i, List.mem_range.1 hi, by omega⟩
      have Hz := Lib.hid hz2; have Hzz := Lib.hid hz
      clear hz hz2
      go_wp2_with fail
      refine wp_region_text (S := fun w' => Below W0.heap.size W0 w') (by kernel_rfl) (by kernel_rfl) (Below.refl _ _).drew ?_
      repeat (first
        | (refine TxtL.skip (by rfl) ?_; simp only [Act.put, List.setIfInBounds_toArray, List.set_cons_zero, List.set_cons_succ])
        | (refine TxtL.take' (by rfl) ?_; apply Exists.intro; refine ⟨fun w1 hS1 => ?_, ?_⟩; (focus ((have g0 := Fnd.c0 (Blk.below HG.out hS1 hGl)); (have g2 := run_sliceD f hn w1); go_simp; with_reducible rfl)); simp only [Act.put, List.setIfInBounds_toArray, List.set_cons_zero, List.set_cons_succ])
        | (refine TxtL.call' (by rfl) ?_; apply Exists.intro; apply Exists.intro; refine ⟨fun w1 hS1 => ?_, ?_⟩; (focus (go_simp; first | with_reducible rfl | exact ⟨rfl, rfl⟩)); apply Exists.intro; refine ⟨fun w1 hS1 => ?_, ?_⟩; (focus ((have g0 := Fnd.c0 (Blk.below HG.out hS1 hGl)); (have g2 := run_sliceD f hn w1); first | (refine (Hcn.out w1 hS1).mono ?_; rintro e w' ⟨rfl, rfl⟩; exact ⟨by rw [Hzz.out], hS1⟩))); simp only [Act.put, List.setIfInBounds_toArray, List.set_cons_zero, List.set_cons_succ]))
      refine TxtL.nil (fun w1 hS1 => ?_)
      have hG1 : Fnd w1 f k (.slice AT k cA) G v full := Blk.below HG.out hS1 hGl
      have hgr1 := grownBy_trans (grownBy_trans hgW Hgq.out) (grownBy_of_below hS1 (some f))
      cases z
      case true =>
        obtain ⟨i, hi, h0⟩ := Hz.out.2 rfl
        have Hi := Lib.hid h0
        clear h0
        go_wp2_with fail
        go_ret
        exact ⟨_, false, rfl, hG1, hgr1, Hsub.out, (fun h => by cases h), fun _ => by rw [← Hsol.out, ← HR.out.sol]; exact sol_zero hi Hi.out⟩
      case false =>
      have hnz : ∀ i, i < k → G i ≠ 0 := fun i hi h0 => by have := Hz.out.1 ⟨i, hi, h0⟩; cases this
      have hkS : Blk w1 S 82 (dC E) := Blk.below (Blk.grown kS Hgq.out (by simp; omega)) hS1 (by have := Hgq.out.size; omega)
      have hSl := Blk.lt hkS
      have hGl1 := Blk.lt hG1
      have Hnz := Lib.hid hnz; have HG1 := Lib.hid hG1; have Hgr1 := Lib.hid hgr1; have HkS := Lib.hid hkS
      clear hnz hG1 hgr1 hkS kS
      obtain ⟨q, hq⟩ : ∃ q, ((List.range 40).all fun i => G i == E i) = q := ⟨_, rfl⟩
      have Hq := Lib.hid hq
      clear hq
      obtain ⟨w0, hw0⟩ : ∃ w0, w0 = w1 := ⟨_, rfl⟩
      subst hw0
      go_wp2_with fail
      refine wp_region_text (S := fun w' => Below w0.heap.size w0 w') (by kernel_rfl) (by kernel_rfl) (Below.refl _ _).drew ?_
      repeat (first
        | (refine TxtL.skip (by rfl) ?_; simp only [Act.put, List.setIfInBounds_toArray, List.set_cons_zero, List.set_cons_succ])
        | (refine TxtL.take' (by rfl) ?_; apply Exists.intro; refine ⟨fun w1 hS1 => ?_, ?_⟩; (focus (skip; go_simp; with_reducible rfl)); simp only [Act.put, List.setIfInBounds_toArray, List.set_cons_zero, List.set_cons_succ]))
      refine TxtL.take' (by rfl) ⟨_, fun w1 hS1 => exec_loadD _ (by rfl) (by rfl) (D := G) (fun j hj => Fnd.at_ (Blk.below HG1.out hS1 hGl1) hj), ?_⟩
      simp only [Act.put, List.setIfInBounds_toArray, List.set_cons_zero, List.set_cons_succ]
      refine TxtL.take' (by rfl) ⟨_, fun w1 hS1 => exec_loadD _ (by rfl) (by rfl) (D := E) (fun j hj => by rw [Blk.cell (Blk.below HkS.out hS1 hSl), Nat.zero_add]; exact dC_at hj), ?_⟩
      simp only [Act.put, List.setIfInBounds_toArray, List.set_cons_zero, List.set_cons_succ]
      refine TxtL.take' (by rfl) ⟨_, fun w1 hS1 => exec_eqD _ _ (by rfl) (by rfl) (by rfl) Hq.out, ?_⟩
      simp only [Act.put, List.setIfInBounds_toArray, List.set_cons_zero, List.set_cons_succ]
      refine TxtL.nil (fun w1 hS1 => ?_)
      have hG2 : Fnd w1 f k (.slice AT k cA) G v full := Blk.below HG1.out hS1 hGl1
      have hgr2 := grownBy_trans Hgr1.out (grownBy_of_below hS1 (some f))
      have HG2 := Lib.hid hG2; have Hgr2 := Lib.hid hgr2
      clear hG2 hgr2 hSl hGl1
      cases q
      case true =>
        have hGE : G = E := funext fun i => by
          rcases Nat.lt_or_ge i 40 with hi | hi
          · have := List.all_eq_true.1 Hq.out i (List.mem_range.2 hi)
            simpa using this
          · rw [full_zero (Hsub.out.trans htop) (by omega), full_zero (HsE.out.trans htop) (by omega)]
        have Hfix := Lib.hid (HR.out.fix hGE)
        have Hge := Lib.hid hGE
        clear hGE
        go_wp2_with fail
        go_ret
        exact ⟨_, true, rfl, HG2.out, Hgr2.out, Hsub.out, fun _ => ⟨fun i hi => by rw [Hge.out]; exact Hfix.out i hi, Hnz.out, by rw [HR.out.sol, Hsol.out]⟩, fun h => by cases h⟩
      case false =>
        have hlt : sumD k G < sumD k E := sub_ne (HsE.out.trans htop) HR.out.sub fun e => by
          have := Hq.out
          rw [e] at this
          simp at this
        have Hlt := Lib.hid hlt
        clear hlt
        go_wp2_with fail
        go_roundw
        case rel => exact ⟨G, HG2.out, Hgr2.out, Hsub.out, by rw [HR.out.sol, Hsol.out]⟩
        case measure => rw [HG2.out.sum hn, HE.out.sum hn]; exact Hlt.out
end Go.Proofs.YtcpombepajapjaaGreatDoor
