/- channel.Finish. (Printed by gen_cn6.py.) -/
import Derived.Test.YthkknlnfdckdfaaCn5
namespace Go.Proofs.Ythkknlnfdckdfaa
open Go.ChangeShapes Go.WideShapes Go.ChangeAt Go.RowKit

/-- the call returns a channel through which all has gone -/
def RetFi (items : List Int) (w : World) : Ending → World → Prop := fun e w' => ∃ (d : Chn) (r : Int), d.items = items ∧ d.rc = items ∧ d.base = (items.length : Int) ∧ (∃ I ci R cr H ch F cf, e = .returned (.tuple #[.agg #[.slice I d.items.length ci, .int .i64 d.win, .int .i64 d.base, .slice R d.rc.length cr, .slice H d.held.length ch, .slice F d.fl.length cf], .int .i64 r]) ∧ ChR w' d I ci R cr H ch F cf ∧ ChG w.heap.size I R H F) ∧ Below w.heap.size w w'
set_option maxRecDepth 100000 in
set_option maxHeartbeats 8000000 in
theorem finish_any (c : Chn) (I : Option Addr) (ci : Nat) (R : Option Addr) (cr : Nat) (H : Option Addr) (ch : Nat) (F : Option Addr) (cf : Nat) (w : World) (hr : ChR w c I ci R cr H ch F cf) (hc : CI c) :
    Calls Try.prog 19 #[.agg #[.slice I c.items.length ci, .int .i64 c.win, .int .i64 c.base, .slice R c.rc.length cr, .slice H c.held.length ch, .slice F c.fl.length cf]] w (RetFi c.items w) := by
  have hfl := hc.fl; have h60 := hc.n60; have hpl := hc.pre.1
  have hhl : c.held.length ≤ 60 := hc.hd.len (by omega) h60
  have Hc := Lib.hid hc
  clear hc
  go_enter Try.func19, Try.ntmps19
  go_upto_region 1 with fail
  obtain ⟨W0, hW, k0, k2, hb0, hs0⟩ := boxed2A w 50 50 #[.slice I c.items.length ci, .int .i64 c.win, .int .i64 c.base, .slice R c.rc.length cr, .slice H c.held.length ch, .slice F c.fl.length cf] #[.slice none 0 0, .int .i64 0, .int .i64 0, .slice none 0 0, .slice none 0 0, .slice none 0 0]
  rw [hW]
  obtain ⟨c0, c1, c2, c3, c4, c5⟩ := dgC k0
  have hr0 := hr.below hb0
  clear hW hr
  go_wp2_with fail
  refine (copied_any c I ci R cr H ch F cf W0 hr0 (by omega) (by omega) (by omega) (by omega)).mono ?_
  rintro e w1 ⟨q, iv, rv, hv, fv, rfl, hl, hb1⟩
  have hb01 := endB hb0 hb1
  have k2 := k2.below hb1 (by omega)
  have hB1 : W0.heap.size ≤ w1.heap.size := hb1.size
  have hgB : w.heap.size + 1 < W0.heap.size := by omega
  obtain ⟨its, hits⟩ : ∃ its, c.items = its := ⟨_, rfl⟩
  rw [hits]
  have Hits := Lib.hid hits
  have Hl := Lib.hid hl; have K2 := Lib.hid k2; have Hb01 := Lib.hid hb01
  clear c0 c1 c2 c3 c4 c5 hr0 hb0 hb1 hl k0 k2 hb01 hits
  go_wp2_with fail
  go_loopw [5] (fun t wr => ∃ (d : Chn) (iv rv hv fv : Value) (r : Nat), t = .int .i64 (r : Int) ∧ LineAt wr W0.heap.size q d iv rv hv fv ∧ CI d ∧ d.items = its ∧ (r : Int) ≤ d.base ∧ Below W0.heap.size w1 wr) (fun t _ => 100 - (intOf t).toNat)
  case atStart => exact ⟨c, iv, rv, hv, fv, 0, rfl, Hl.out, Hc.out, Hits.out, Hc.out.b0, Below.refl _ _⟩
  case round =>
    clear Hl
    obtain ⟨d, iv, rv, hv, fv, r, rfl, hl, hcd, hdi, hrb, hbl⟩ := hrel
    have hb60 := hcd.b1; have hd60 := hcd.n60; have hdp := hcd.pre.1
    have hBr : W0.heap.size ≤ wr.heap.size := Nat.le_trans hB1 hbl.size
    have k2 := K2.out.below (hbl.mono (Nat.le_refl _)) hgB
    have hf5 := hl.blk.frozen 5
    obtain ⟨d0, d1, d2, d3, d4, d5⟩ := dgC hl.blk
    have hlN : LineAt (wr.setCell ⟨q, 5, none⟩ (.slice none 0 0)) W0.heap.size q (nofl d) iv rv hv (.slice none 0 0) := hl.setFl (grownBy_refl _ _) (OwnK.nil _ _) (.inr (fun k hk => by cases hk))
    have kN := k2.far (p := ⟨q, 5, none⟩) (fun e => by have := hl.bq; dsimp only at e; omega) (.slice none 0 0)
    have hbN := hbl.setCell (p := ⟨q, 5, none⟩) hl.bq (.slice none 0 0)
    have hcN : CI (nofl d) := hcd.flOf (by simp) (fun q hq => by cases hq)
    go_upto_region 4 with fail
    obtain ⟨wN, hwN⟩ : ∃ W, wr.setCell ⟨q, 5, none⟩ (.slice none 0 0) = W := ⟨_, rfl⟩
    rw [hwN] at hlN kN hbN ⊢
    have hBN : W0.heap.size ≤ wN.heap.size := Nat.le_trans hB1 hbN.size
    clear hwN d0 d1 d2 d3 d4 d5 hf5 k2 hbl hl
    obtain ⟨I9, ci9, R9, cr9, H9, ch9, F9, cf9, e1, e2, e3, e4, hcr, hcg⟩ := hlN.chr
    subst e1 e2 e3
    simp only [Value.slice.injEq] at e4
    obtain ⟨rfl, -, rfl⟩ := e4
    obtain ⟨d0, d1, d2, d3, d4, d5⟩ := dgC hlN.blk
    have HlN := Lib.hid hlN; have KN := Lib.hid kN; have HbN := Lib.hid hbN; have HcN := Lib.hid hcN; have Hcd := Lib.hid hcd; have Hdi := Lib.hid hdi; have Hcr := Lib.hid hcr
    clear hcd hdi hlN kN hbN hcN hcr hcg
    by_cases hend : d.base = (d.items.length : Int)
    case pos =>
      have hdn : (d.base == (d.items.length : Int)) = true := beq_iff_eq.2 hend
      have hrc := fin_done Hcd.out hend
      have Hend := Lib.hid (And.intro hend hrc)
      clear hend hrc
      go_wp2_with fail
      refine (done_any (nofl d) I9 ci9 R9 cr9 H9 ch9 none 0 wN).mono ?_
      rintro e w2 ⟨rfl, hb2⟩
      have hdn2 : ((nofl d).base == ((nofl d).items.length : Int)) = true := hdn
      rw [hdn2]
      clear hdn hdn2
      have Hl2 := Lib.hid (HlN.out.below hb2)
      have K22 := Lib.hid (KN.out.below hb2 (by omega))
      have Hb2 := Lib.hid (HbN.out.trans (hb2.mono hBN))
      clear HlN KN HbN hb2 d0 d1 d2 d3 d4 d5 Hcr
      obtain ⟨d0, d1, d2, d3, d4, d5⟩ := dgC Hl2.out.blk
      obtain ⟨z0, z1, z2, z3, z4, z5⟩ := dgF K22.out
      obtain ⟨y0, y1, y2, y3, y4, y5⟩ := dgC K22.out
      obtain ⟨I8, ci8, R8, cr8, H8, ch8, F8, cf8, e1, e2, e3, e4, hcr, hcg⟩ := st_end Hl2.out K22.out hgB
      have K9 := Lib.hid (set6 K22.out (.slice I9 (nofl d).items.length ci9) (.int .i64 (nofl d).win) (.int .i64 (nofl d).base) (.slice R9 (nofl d).rc.length cr9) (.slice H9 (nofl d).held.length ch9) (.slice none 0 0))
      have H9b := Lib.hid (below_set6K (Hb01.out.trans (Hb2.out.mono (by omega))) (by omega : w.heap.size ≤ w.heap.size + 1) (.slice I9 (nofl d).items.length ci9) (.int .i64 (nofl d).win) (.int .i64 (nofl d).base) (.slice R9 (nofl d).rc.length cr9) (.slice H9 (nofl d).held.length ch9) (.slice none 0 0))
      simp only [Value.slice.injEq] at e1 e2 e3 e4
      obtain ⟨rfl, -, rfl⟩ := e1
      obtain ⟨rfl, -, rfl⟩ := e2
      obtain ⟨rfl, -, rfl⟩ := e3
      obtain ⟨rfl, -, rfl⟩ := e4
      have Hcr := Lib.hid hcr; have Hcg := Lib.hid (hcg.mono (by omega : w.heap.size ≤ W0.heap.size))
      clear hcr hcg
      go_wp2_with fail
      obtain ⟨r0, r1, r2, r3, r4, r5⟩ := dgC K9.out
      refine bodyPost_ret (v := .tuple #[.agg #[.slice I9 (nofl d).items.length ci9, .int .i64 (nofl d).win, .int .i64 (nofl d).base, .slice R9 (nofl d).rc.length cr9, .slice H9 (nofl d).held.length ch9, .slice none 0 0], .int .i64 (r : Int)]) (by simp [results, Try.results19, go_sem, r0, r1, r2, r3, r4, r5]) rfl ?_
      exact ⟨nofl d, r, Hdi.out.trans Hits.out.symm, Hend.out.2.trans (Hdi.out.trans Hits.out.symm), by rw [Hits.out, ← Hdi.out]; exact Hend.out.1, ⟨I9, ci9, R9, cr9, H9, ch9, none, 0, rfl, Hcr.out, Hcg.out⟩, H9b.out⟩
    case neg =>
      have hdn : (d.base == (d.items.length : Int)) = false := beq_eq_false_iff_ne.2 hend
      obtain ⟨hs0, hsf⟩ := fin_send Hcd.out hend
      obtain ⟨hf1, hf2, hf3, hf4, hf6⟩ := fin_ok Hcd.out hend
      have hc1 := send_ok HcN.out 0
      have hc2 := (deliv_ok hc1 (n := 0) (by rw [hf4]; omega)).1
      have hfr : finR d = delivF (delivF (sendF (nofl d) 0) 0) 0 := rfl
      have Hs0 := Lib.hid hs0; have Hf := Lib.hid (And.intro hf1 (And.intro hf2 hf3)); have Hf4 := Lib.hid hf4; have Hf6 := Lib.hid hf6; have Hc1 := Lib.hid hc1; have Hc2 := Lib.hid hc2; have Hfr := Lib.hid hfr
      clear hend hs0 hsf hf1 hf2 hf3 hf4 hf6 hc1 hc2 hfr
      go_wp2_with fail
      refine (done_any (nofl d) I9 ci9 R9 cr9 H9 ch9 none 0 wN).mono ?_
      rintro e w2 ⟨rfl, hb2⟩
      have hdn2 : ((nofl d).base == ((nofl d).items.length : Int)) = false := hdn
      rw [hdn2]
      have Hl2 := Lib.hid (HlN.out.below hb2)
      have hB2 : W0.heap.size ≤ w2.heap.size := Nat.le_trans hBN hb2.size
      have Hb2 := Lib.hid (HbN.out.trans (hb2.mono hBN))
      clear HlN KN HbN hb2 d0 d1 d2 d3 d4 d5 Hcr hdn hdn2
      go_wp2_with fail
      refine (send_any W0.heap.size q (nofl d) 0 _ _ _ _ w2 Hl2.out HcN.out (by omega) (by omega) hB2).mono ?_
      rintro e w3 ⟨iv3, rv3, hv3, fv3, rfl, hl3, hb3⟩
      rw [Hs0.out]
      have hB3 : W0.heap.size ≤ w3.heap.size := Nat.le_trans hB2 hb3.size
      have Hl3 := Lib.hid hl3
      have Hb3 := Lib.hid (Hb2.out.trans hb3)
      have hbs : (sendF (nofl d) 0).base = d.base := by unfold sendF; rw [if_pos Hs0.out]; rfl
      obtain ⟨c3, hc3⟩ : ∃ c3, sendF (nofl d) 0 = c3 := ⟨_, rfl⟩
      rw [hc3] at Hl3 Hc1 Hf4 Hf6 Hc2 Hfr hbs
      obtain ⟨d0, d1, d2, d3, d4, d5⟩ := dgC Hl3.out.blk
      rw [hbs] at d2
      clear hl3 hb3 Hl2 Hb2 hc3 hbs
      go_wp2_with fail
      refine (deliv_any W0.heap.size q 0 c3 iv3 rv3 hv3 fv3 w3 Hl3.out Hc1.out (by rw [Hf4.out]; omega) hB3).mono ?_
      rintro e w4 ⟨iv4, rv4, hv4, fv4, rfl, hl4, hb4⟩
      have hB4 : W0.heap.size ≤ w4.heap.size := Nat.le_trans hB3 hb4.size
      have Hl4 := Lib.hid hl4
      have Hb4 := Lib.hid (Hb3.out.trans hb4)
      obtain ⟨c4, hc4⟩ : ∃ c4, delivF c3 0 = c4 := ⟨_, rfl⟩
      rw [hc4] at Hl4 Hf6 Hc2 Hfr
      clear hl4 hb4 Hl3 Hb3 hc4 d0 d1 d2 d3 d4 d5
      go_wp2_with fail
      refine (deliv_any W0.heap.size q 0 c4 iv4 rv4 hv4 fv4 w4 Hl4.out Hc2.out (by rw [Hf6.out]; omega) hB4).mono ?_
      rintro e w5 ⟨iv5, rv5, hv5, fv5, rfl, hl5, hb5⟩
      have Hb5 := Lib.hid (Hb4.out.trans hb5)
      rw [← Hfr.out] at hl5
      have Hl5 := Lib.hid hl5
      obtain ⟨d0, d1, d2, d3, d4, d5⟩ := dgC hl5.blk
      have hlt := Hf.out.2.1
      have hbe : ((finR d).base == d.base) = false := beq_eq_false_iff_ne.2 (by omega)
      have hwr : IntKind.i64.wrap ((r : Int) + 1) = ((r + 1 : Nat) : Int) := by rw [IntKind.wrap_i64]; omega
      have hlt2 : (r : Int) < 60 := by
        have h1 := Hf.out.1.b1; have h2 := Hf.out.1.pre.1; have h3 := Hf.out.1.n60; omega
      clear hl5 hb5 Hl4 Hb4
      go_wp2_with fail
      go_roundw
      case rel => exact ⟨finR d, iv5, rv5, hv5, fv5, r + 1, by go_num, Hl5.out, Hf.out.1, Hf.out.2.2.trans Hdi.out, by omega, Hb5.out⟩
      case measure => simp [intOf]; omega
end Go.Proofs.Ythkknlnfdckdfaa
