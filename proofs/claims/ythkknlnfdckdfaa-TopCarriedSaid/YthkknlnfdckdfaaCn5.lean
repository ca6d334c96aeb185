/- channel.Step. (Printed by gen_cn5.py.) -/
import Derived.Test.YthkknlnfdckdfaaCn4
namespace Go.Proofs.Ythkknlnfdckdfaa
open Go.ChangeShapes Go.WideShapes Go.ChangeAt Go.RowKit

theorem LineAt.farC {w : World} {B q : Nat} {c : Chn} {iv rv hv fv : Value} (h : LineAt w B q c iv rv hv fv) {g : Nat} (hg : g < B) (i : Nat) (u : Value) : LineAt (w.setCell ⟨g, i, none⟩ u) B q c iv rv hv fv :=
  ⟨h.blk.far (p := ⟨g, i, none⟩) (fun e => by have := h.bq; dsimp only at e; omega) u, h.bq, OwnI.farB h.io hg u, OwnI.farB h.ro hg u, h.ho.far (fun e => by have := (h.ho.lt _ e).1; omega) _ _, h.fo.far (fun e => by have := (h.fo.lt _ e).1; omega) _ _, h.ir, h.hf⟩
theorem st_end {w : World} {B q g : Nat} {c : Chn} {iv rv hv fv : Value} {zs : Array Value} (h : LineAt w B q c iv rv hv fv) (_hz : Blk w g 50 zs) (hg : g < B) : ∃ I ci R cr H ch F cf, iv = .slice I c.items.length ci ∧ rv = .slice R c.rc.length cr ∧ hv = .slice H c.held.length ch ∧ fv = .slice F c.fl.length cf ∧
    ChR (((((((w.setCell ⟨g, 0, none⟩ iv).setCell ⟨g, 1, none⟩ (.int .i64 c.win)).setCell ⟨g, 2, none⟩ (.int .i64 c.base)).setCell ⟨g, 3, none⟩ rv).setCell ⟨g, 4, none⟩ hv).setCell ⟨g, 5, none⟩ fv)) c I ci R cr H ch F cf ∧ ChG B I R H F :=
  LineAt.chr ((((((h.farC hg 0 _).farC hg 1 _).farC hg 2 _).farC hg 3 _).farC hg 4 _).farC hg 5 _)
/-- what a step answers -/
def RetSt (c : Chn) (k n : Int) (w : World) : Ending → World → Prop := fun e w' => Below w.heap.size w w' ∧
  ((stepE c k n = 0 ∧ ∃ I ci R cr H ch F cf, e = .returned (.tuple #[.agg #[.slice I (stepF c k n).items.length ci, .int .i64 (stepF c k n).win, .int .i64 (stepF c k n).base, .slice R (stepF c k n).rc.length cr, .slice H (stepF c k n).held.length ch, .slice F (stepF c k n).fl.length cf], .int .i64 0]) ∧ ChR w' (stepF c k n) I ci R cr H ch F cf ∧ ChG w.heap.size I R H F) ∨
   (stepE c k n ≠ 0 ∧ e = .returned (.tuple #[.agg #[.slice none 0 0, .int .i64 0, .int .i64 0, .slice none 0 0, .slice none 0 0, .slice none 0 0], .int .i64 (stepE c k n)])))
theorem retSt_ok {c cS : Chn} {k n : Int} {w w' : World} {I : Option Addr} {ci : Nat} {R : Option Addr} {cr : Nat} {H : Option Addr} {ch : Nat} {F : Option Addr} {cf : Nat} (he : stepE c k n = 0) (hs : stepF c k n = cS) (hb : Below w.heap.size w w') (h : ChR w' cS I ci R cr H ch F cf) (hg : ChG w.heap.size I R H F) : RetSt c k n w (.returned (.tuple #[.agg #[.slice I cS.items.length ci, .int .i64 cS.win, .int .i64 cS.base, .slice R cS.rc.length cr, .slice H cS.held.length ch, .slice F cS.fl.length cf], .int .i64 0])) w' := by
  subst hs
  exact ⟨hb, .inl ⟨he, _, _, _, _, _, _, _, _, rfl, h, hg⟩⟩
theorem retSt_no {c : Chn} {k n : Int} {w w' : World} {E : Int} (he : stepE c k n = E) (h0 : E ≠ 0) (hb : Below w.heap.size w w') : RetSt c k n w (.returned (.tuple #[.agg #[.slice none 0 0, .int .i64 0, .int .i64 0, .slice none 0 0, .slice none 0 0, .slice none 0 0], .int .i64 E])) w' := by
  subst he
  exact ⟨hb, .inr ⟨h0, rfl⟩⟩
set_option maxRecDepth 100000 in
set_option maxHeartbeats 8000000 in
theorem step1_any (c : Chn) (I : Option Addr) (ci : Nat) (R : Option Addr) (cr : Nat) (H : Option Addr) (ch : Nat) (F : Option Addr) (cf : Nat) (n : Int) (w : World) (hr : ChR w c I ci R cr H ch F cf) (hc : CI c) (hn0 : -9223372036854775808 ≤ n) (hn1 : n ≤ 9223372036854775807) :
    Calls Try.prog 14 #[.agg #[.slice I c.items.length ci, .int .i64 c.win, .int .i64 c.base, .slice R c.rc.length cr, .slice H c.held.length ch, .slice F c.fl.length cf], .agg #[.int .i64 1, .int .i64 n]] w (RetSt c 1 n w) := by
  have hE : stepE c 1 n = sendE c n := by unfold stepE; rw [if_pos rfl]
  have hS : stepF c 1 n = sendF c n := by unfold stepF; rw [if_pos rfl]
  obtain ⟨E, hE2⟩ : ∃ E, sendE c n = E := ⟨_, rfl⟩
  obtain ⟨cS, hcS⟩ : ∃ cS, sendF c n = cS := ⟨_, rfl⟩
  have HE := Lib.hid hE2; have HcS := Lib.hid hcS; have HE1 := Lib.hid hE; have HS := Lib.hid (hS.trans hcS)
  clear hE hS hE2 hcS
  have hfl := hc.fl; have h60 := hc.n60; have hpl := hc.pre.1
  have hhl : c.held.length ≤ 60 := hc.hd.len (by omega) h60
  have hF : ∀ (m : Nat), m < c.fl.length → F ≠ none := fun m hm e => by have := (hr.f0 e).1; rw [this] at hm; simp at hm
  have Hc := Lib.hid hc
  clear hc hF
  go_enter Try.func14, Try.ntmps14
  go_upto_region 1 with fail
  obtain ⟨W0, hW, k0, k1, k2, hb0, hs0⟩ := boxed3A w 50 54 50 #[.slice I c.items.length ci, .int .i64 c.win, .int .i64 c.base, .slice R c.rc.length cr, .slice H c.held.length ch, .slice F c.fl.length cf] #[.int .i64 1, .int .i64 n] #[.slice none 0 0, .int .i64 0, .int .i64 0, .slice none 0 0, .slice none 0 0, .slice none 0 0]
  rw [hW]
  obtain ⟨c0, c1, c2, c3, c4, c5⟩ := dgC k0
  obtain ⟨e0, e1, _, _⟩ := k1.two
  have hr0 := hr.below hb0
  clear hW hr
  go_wp2_with fail
  refine (copied_any c I ci R cr H ch F cf W0 hr0 (by omega) (by omega) (by omega) (by omega)).mono ?_
  rintro e w1 ⟨q, iv, rv, hv, fv, rfl, hl, hb1⟩
  have hb01 := endB hb0 hb1
  have k2 := k2.below hb1 (by omega)
  have k1 := k1.below hb1 (by omega)
  have k0 := k0.below hb1 (by omega)
  have hs1 := hb1.size
  have hB1 : W0.heap.size ≤ w1.heap.size := hb1.size
  have hgB : w.heap.size + 2 < W0.heap.size := by omega
  clear c0 c1 c2 c3 c4 c5 e0 e1 hr0 hb0 hb1
  obtain ⟨c0, c1, c2, c3, c4, c5⟩ := dgC k0
  obtain ⟨e0, e1, _, _⟩ := k1.two
  have Hl := Lib.hid hl; have K2 := Lib.hid k2; have K0 := Lib.hid k0; have K1 := Lib.hid k1; have Hb01 := Lib.hid hb01
  clear hl k0 k1 k2 hb01
  go_wp2_with fail
  refine (send_any W0.heap.size q c n iv rv hv fv w1 Hl.out Hc.out hn0 hn1 hB1).mono ?_
  rintro e w2 ⟨iv2, rv2, hv2, fv2, rfl, hl2, hb2⟩
  have Hl2 := Lib.hid hl2
  have K22 := Lib.hid (K2.out.below hb2 hgB)
  have Hb2 := Lib.hid (Hb01.out.trans (hb2.mono (by omega)))
  rw [HE.out]
  rw [HcS.out] at Hl2
  clear hl2 hb2 Hl K2 K0 K1 Hb01 c0 c1 c2 c3 c4 c5 e0 e1
  by_cases h0 : E = 0
  · subst h0
    obtain ⟨I9, ci9, R9, cr9, H9, ch9, F9, cf9, rfl, rfl, rfl, rfl, hcr, hcg⟩ := st_end Hl2.out K22.out hgB
    obtain ⟨d0, d1, d2, d3, d4, d5⟩ := dgC Hl2.out.blk
    obtain ⟨z0, z1, z2, z3, z4, z5⟩ := dgF K22.out
    obtain ⟨y0, y1, y2, y3, y4, y5⟩ := dgC K22.out
    have K9 := Lib.hid (set6 K22.out (.slice I9 cS.items.length ci9) (.int .i64 cS.win) (.int .i64 cS.base) (.slice R9 cS.rc.length cr9) (.slice H9 cS.held.length ch9) (.slice F9 cS.fl.length cf9))
    have Hcr := Lib.hid hcr; have Hcg := Lib.hid (hcg.mono (by omega : w.heap.size ≤ W0.heap.size))
    have H9b := Lib.hid (below_set6K Hb2.out (by omega : w.heap.size ≤ w.heap.size + 2) (.slice I9 cS.items.length ci9) (.int .i64 cS.win) (.int .i64 cS.base) (.slice R9 cS.rc.length cr9) (.slice H9 cS.held.length ch9) (.slice F9 cS.fl.length cf9))
    clear hcr hcg
    go_wp2_with fail
    obtain ⟨r0, r1, r2, r3, r4, r5⟩ := dgC K9.out
    refine bodyPost_ret (v := .tuple #[.agg #[.slice I9 cS.items.length ci9, .int .i64 cS.win, .int .i64 cS.base, .slice R9 cS.rc.length cr9, .slice H9 cS.held.length ch9, .slice F9 cS.fl.length cf9], .int .i64 0]) (by simp [results, Try.results14, go_sem, r0, r1, r2, r3, r4, r5]) rfl ?_
    exact retSt_ok (HE1.out.trans HE.out) HS.out H9b.out Hcr.out Hcg.out
  · have hd : (E != 0) = true := bne_iff_ne.2 h0
    have H0 := Lib.hid h0
    clear h0
    obtain ⟨z0, z1, z2, z3, z4, z5⟩ := dgF K22.out
    obtain ⟨y0, y1, y2, y3, y4, y5⟩ := dgC K22.out
    have K9 := Lib.hid (set6 K22.out (.slice none 0 0) (.int .i64 0) (.int .i64 0) (.slice none 0 0) (.slice none 0 0) (.slice none 0 0))
    have H9b := Lib.hid (below_set6K Hb2.out (by omega : w.heap.size ≤ w.heap.size + 2) (.slice none 0 0) (.int .i64 0) (.int .i64 0) (.slice none 0 0) (.slice none 0 0) (.slice none 0 0))
    go_wp2_with fail
    obtain ⟨r0, r1, r2, r3, r4, r5⟩ := dgC K9.out
    refine bodyPost_ret (v := .tuple #[.agg #[.slice none 0 0, .int .i64 0, .int .i64 0, .slice none 0 0, .slice none 0 0, .slice none 0 0], .int .i64 E]) (by simp [results, Try.results14, go_sem, r0, r1, r2, r3, r4, r5]) rfl ?_
    exact retSt_no (HE1.out.trans HE.out) H0.out H9b.out
set_option maxRecDepth 100000 in
set_option maxHeartbeats 8000000 in
theorem step0_any (c : Chn) (I : Option Addr) (ci : Nat) (R : Option Addr) (cr : Nat) (H : Option Addr) (ch : Nat) (F : Option Addr) (cf : Nat) (k : Int) (n : Int) (w : World) (hr : ChR w c I ci R cr H ch F cf) (hc : CI c) (h1 : k ≠ 1) (h2 : k ≠ 2) (h3 : k ≠ 3) (h4 : k ≠ 4) :
    Calls Try.prog 14 #[.agg #[.slice I c.items.length ci, .int .i64 c.win, .int .i64 c.base, .slice R c.rc.length cr, .slice H c.held.length ch, .slice F c.fl.length cf], .agg #[.int .i64 k, .int .i64 n]] w (RetSt c k n w) := by
  have hE : stepE c k n = 4 := by unfold stepE; rw [if_neg h1, if_neg (by omega)]
  have HE := Lib.hid hE
  have b1 : (k == 1) = false := beq_eq_false_iff_ne.2 h1
  have b2 : (k == 2) = false := beq_eq_false_iff_ne.2 h2
  have b3 : (k == 3) = false := beq_eq_false_iff_ne.2 h3
  have b4 : (k == 4) = false := beq_eq_false_iff_ne.2 h4
  clear hE h1 h2 h3 h4
  have hfl := hc.fl; have h60 := hc.n60; have hpl := hc.pre.1
  have hhl : c.held.length ≤ 60 := hc.hd.len (by omega) h60
  have hF : ∀ (m : Nat), m < c.fl.length → F ≠ none := fun m hm e => by have := (hr.f0 e).1; rw [this] at hm; simp at hm
  have Hc := Lib.hid hc
  clear hc hF
  go_enter Try.func14, Try.ntmps14
  go_upto_region 1 with fail
  obtain ⟨W0, hW, k0, k1, k2, hb0, hs0⟩ := boxed3A w 50 54 50 #[.slice I c.items.length ci, .int .i64 c.win, .int .i64 c.base, .slice R c.rc.length cr, .slice H c.held.length ch, .slice F c.fl.length cf] #[.int .i64 k, .int .i64 n] #[.slice none 0 0, .int .i64 0, .int .i64 0, .slice none 0 0, .slice none 0 0, .slice none 0 0]
  rw [hW]
  obtain ⟨c0, c1, c2, c3, c4, c5⟩ := dgC k0
  obtain ⟨e0, e1, _, _⟩ := k1.two
  have hr0 := hr.below hb0
  clear hW hr
  go_wp2_with fail
  refine (copied_any c I ci R cr H ch F cf W0 hr0 (by omega) (by omega) (by omega) (by omega)).mono ?_
  rintro e w1 ⟨q, iv, rv, hv, fv, rfl, hl, hb1⟩
  have hb01 := endB hb0 hb1
  have k2 := k2.below hb1 (by omega)
  have k1 := k1.below hb1 (by omega)
  have k0 := k0.below hb1 (by omega)
  have hs1 := hb1.size
  have hB1 : W0.heap.size ≤ w1.heap.size := hb1.size
  have hgB : w.heap.size + 2 < W0.heap.size := by omega
  clear c0 c1 c2 c3 c4 c5 e0 e1 hr0 hb0 hb1
  obtain ⟨c0, c1, c2, c3, c4, c5⟩ := dgC k0
  obtain ⟨e0, e1, _, _⟩ := k1.two
  have Hl := Lib.hid hl; have K2 := Lib.hid k2; have K0 := Lib.hid k0; have K1 := Lib.hid k1; have Hb01 := Lib.hid hb01
  clear hl k0 k1 k2 hb01
  obtain ⟨z0, z1, z2, z3, z4, z5⟩ := dgF K2.out
  obtain ⟨y0, y1, y2, y3, y4, y5⟩ := dgC K2.out
  have K9 := Lib.hid (set6 K2.out (.slice none 0 0) (.int .i64 0) (.int .i64 0) (.slice none 0 0) (.slice none 0 0) (.slice none 0 0))
  have H9b := Lib.hid (below_set6K Hb01.out (by omega : w.heap.size ≤ w.heap.size + 2) (.slice none 0 0) (.int .i64 0) (.int .i64 0) (.slice none 0 0) (.slice none 0 0) (.slice none 0 0))
  go_wp2_with fail
  obtain ⟨r0, r1, r2, r3, r4, r5⟩ := dgC K9.out
  refine bodyPost_ret (v := .tuple #[.agg #[.slice none 0 0, .int .i64 0, .int .i64 0, .slice none 0 0, .slice none 0 0, .slice none 0 0], .int .i64 4]) (by simp [results, Try.results14, go_sem, r0, r1, r2, r3, r4, r5]) rfl ?_
  exact retSt_no HE.out (by decide) H9b.out
set_option maxRecDepth 100000 in
set_option maxHeartbeats 8000000 in
theorem stepR_any (c : Chn) (I : Option Addr) (ci : Nat) (R : Option Addr) (cr : Nat) (H : Option Addr) (ch : Nat) (F : Option Addr) (cf : Nat) (k : Int) (n : Int) (w : World) (hr : ChR w c I ci R cr H ch F cf) (hc : CI c) (hk : k = 2 ∨ k = 3 ∨ k = 4) (hr2 : n < 0 ∨ (c.fl.length : Int) ≤ n) :
    Calls Try.prog 14 #[.agg #[.slice I c.items.length ci, .int .i64 c.win, .int .i64 c.base, .slice R c.rc.length cr, .slice H c.held.length ch, .slice F c.fl.length cf], .agg #[.int .i64 k, .int .i64 n]] w (RetSt c k n w) := by
  have hE : stepE c k n = 1 := by unfold stepE; rw [if_neg (by omega), if_pos hk, if_pos hr2]
  have HE := Lib.hid hE
  have b1 : (k == 1) = false := beq_eq_false_iff_ne.2 (by omega)
  have Hk := Lib.hid hk
  clear hE hk
  have hfl := hc.fl; have h60 := hc.n60; have hpl := hc.pre.1
  have hhl : c.held.length ≤ 60 := hc.hd.len (by omega) h60
  have hF : ∀ (m : Nat), m < c.fl.length → F ≠ none := fun m hm e => by have := (hr.f0 e).1; rw [this] at hm; simp at hm
  have Hc := Lib.hid hc
  clear hc hF
  go_enter Try.func14, Try.ntmps14
  go_upto_region 1 with fail
  obtain ⟨W0, hW, k0, k1, k2, hb0, hs0⟩ := boxed3A w 50 54 50 #[.slice I c.items.length ci, .int .i64 c.win, .int .i64 c.base, .slice R c.rc.length cr, .slice H c.held.length ch, .slice F c.fl.length cf] #[.int .i64 k, .int .i64 n] #[.slice none 0 0, .int .i64 0, .int .i64 0, .slice none 0 0, .slice none 0 0, .slice none 0 0]
  rw [hW]
  obtain ⟨c0, c1, c2, c3, c4, c5⟩ := dgC k0
  obtain ⟨e0, e1, _, _⟩ := k1.two
  have hr0 := hr.below hb0
  clear hW hr
  go_wp2_with fail
  refine (copied_any c I ci R cr H ch F cf W0 hr0 (by omega) (by omega) (by omega) (by omega)).mono ?_
  rintro e w1 ⟨q, iv, rv, hv, fv, rfl, hl, hb1⟩
  have hb01 := endB hb0 hb1
  have k2 := k2.below hb1 (by omega)
  have k1 := k1.below hb1 (by omega)
  have k0 := k0.below hb1 (by omega)
  have hs1 := hb1.size
  have hB1 : W0.heap.size ≤ w1.heap.size := hb1.size
  have hgB : w.heap.size + 2 < W0.heap.size := by omega
  clear c0 c1 c2 c3 c4 c5 e0 e1 hr0 hb0 hb1
  obtain ⟨c0, c1, c2, c3, c4, c5⟩ := dgC k0
  obtain ⟨e0, e1, _, _⟩ := k1.two
  have Hl := Lib.hid hl; have K2 := Lib.hid k2; have K0 := Lib.hid k0; have K1 := Lib.hid k1; have Hb01 := Lib.hid hb01
  clear hl k0 k1 k2 hb01
  rcases Hk.out with rfl | rfl | rfl
  all_goals
    by_cases h : n < 0
    · have hd : decide (n < 0) = true := decide_eq_true h
      obtain ⟨z0, z1, z2, z3, z4, z5⟩ := dgF K2.out
      obtain ⟨y0, y1, y2, y3, y4, y5⟩ := dgC K2.out
      have K9 := Lib.hid (set6 K2.out (.slice none 0 0) (.int .i64 0) (.int .i64 0) (.slice none 0 0) (.slice none 0 0) (.slice none 0 0))
      have H9b := Lib.hid (below_set6K Hb01.out (by omega : w.heap.size ≤ w.heap.size + 2) (.slice none 0 0) (.int .i64 0) (.int .i64 0) (.slice none 0 0) (.slice none 0 0) (.slice none 0 0))
      go_wp2_with fail
      obtain ⟨r0, r1, r2, r3, r4, r5⟩ := dgC K9.out
      refine bodyPost_ret (v := .tuple #[.agg #[.slice none 0 0, .int .i64 0, .int .i64 0, .slice none 0 0, .slice none 0 0, .slice none 0 0], .int .i64 1]) (by simp [results, Try.results14, go_sem, r0, r1, r2, r3, r4, r5]) rfl ?_
      exact retSt_no HE.out (by decide) H9b.out
    · have hd : decide (n < 0) = false := decide_eq_false h
      have hd2 : decide ((c.fl.length : Int) ≤ n) = true := decide_eq_true (by omega)
      obtain ⟨z0, z1, z2, z3, z4, z5⟩ := dgF K2.out
      obtain ⟨y0, y1, y2, y3, y4, y5⟩ := dgC K2.out
      have K9 := Lib.hid (set6 K2.out (.slice none 0 0) (.int .i64 0) (.int .i64 0) (.slice none 0 0) (.slice none 0 0) (.slice none 0 0))
      have H9b := Lib.hid (below_set6K Hb01.out (by omega : w.heap.size ≤ w.heap.size + 2) (.slice none 0 0) (.int .i64 0) (.int .i64 0) (.slice none 0 0) (.slice none 0 0) (.slice none 0 0))
      go_wp2_with fail
      obtain ⟨r0, r1, r2, r3, r4, r5⟩ := dgC K9.out
      refine bodyPost_ret (v := .tuple #[.agg #[.slice none 0 0, .int .i64 0, .int .i64 0, .slice none 0 0, .slice none 0 0, .slice none 0 0], .int .i64 1]) (by simp [results, Try.results14, go_sem, r0, r1, r2, r3, r4, r5]) rfl ?_
      exact retSt_no HE.out (by decide) H9b.out
set_option maxRecDepth 100000 in
set_option maxHeartbeats 8000000 in
theorem step2_any (c : Chn) (I : Option Addr) (ci : Nat) (R : Option Addr) (cr : Nat) (H : Option Addr) (ch : Nat) (F : Option Addr) (cf : Nat) (m : Nat) (w : World) (hr : ChR w c I ci R cr H ch F cf) (hc : CI c) (hm : m < c.fl.length) :
    Calls Try.prog 14 #[.agg #[.slice I c.items.length ci, .int .i64 c.win, .int .i64 c.base, .slice R c.rc.length cr, .slice H c.held.length ch, .slice F c.fl.length cf], .agg #[.int .i64 2, .int .i64 (m : Int)]] w (RetSt c 2 (m : Int) w) := by
  have hd : ¬ (m : Int) < 0 := by omega
  have hd2 : ¬ (c.fl.length : Int) ≤ (m : Int) := by omega
  have hE : stepE c 2 (m : Int) = 0 := by unfold stepE; rw [if_neg (by omega), if_pos (.inl rfl), if_neg (by omega), if_neg (by omega)]
  have hS : stepF c 2 (m : Int) = delivF c m := by unfold stepF; rw [if_neg (by omega), if_pos rfl, Int.toNat_natCast]
  obtain ⟨cS, hcS⟩ : ∃ cS, delivF c m = cS := ⟨_, rfl⟩
  have HcS := Lib.hid hcS; have HE := Lib.hid hE; have HS := Lib.hid (hS.trans hcS)
  clear hE hS hcS
  have hfl := hc.fl; have h60 := hc.n60; have hpl := hc.pre.1
  have hhl : c.held.length ≤ 60 := hc.hd.len (by omega) h60
  have hF : ∀ (m : Nat), m < c.fl.length → F ≠ none := fun m hm e => by have := (hr.f0 e).1; rw [this] at hm; simp at hm
  have Hc := Lib.hid hc
  clear hc hF
  go_enter Try.func14, Try.ntmps14
  go_upto_region 1 with fail
  obtain ⟨W0, hW, k0, k1, k2, hb0, hs0⟩ := boxed3A w 50 54 50 #[.slice I c.items.length ci, .int .i64 c.win, .int .i64 c.base, .slice R c.rc.length cr, .slice H c.held.length ch, .slice F c.fl.length cf] #[.int .i64 2, .int .i64 (m : Int)] #[.slice none 0 0, .int .i64 0, .int .i64 0, .slice none 0 0, .slice none 0 0, .slice none 0 0]
  rw [hW]
  obtain ⟨c0, c1, c2, c3, c4, c5⟩ := dgC k0
  obtain ⟨e0, e1, _, _⟩ := k1.two
  have hr0 := hr.below hb0
  clear hW hr
  go_wp2_with fail
  refine (copied_any c I ci R cr H ch F cf W0 hr0 (by omega) (by omega) (by omega) (by omega)).mono ?_
  rintro e w1 ⟨q, iv, rv, hv, fv, rfl, hl, hb1⟩
  have hb01 := endB hb0 hb1
  have k2 := k2.below hb1 (by omega)
  have k1 := k1.below hb1 (by omega)
  have k0 := k0.below hb1 (by omega)
  have hs1 := hb1.size
  have hB1 : W0.heap.size ≤ w1.heap.size := hb1.size
  have hgB : w.heap.size + 2 < W0.heap.size := by omega
  clear c0 c1 c2 c3 c4 c5 e0 e1 hr0 hb0 hb1
  obtain ⟨c0, c1, c2, c3, c4, c5⟩ := dgC k0
  obtain ⟨e0, e1, _, _⟩ := k1.two
  have Hl := Lib.hid hl; have K2 := Lib.hid k2; have K0 := Lib.hid k0; have K1 := Lib.hid k1; have Hb01 := Lib.hid hb01
  clear hl k0 k1 k2 hb01
  go_wp2_with fail
  refine (deliv_any W0.heap.size q m c iv rv hv fv w1 Hl.out Hc.out hm hB1).mono ?_
  rintro e w2 ⟨iv2, rv2, hv2, fv2, rfl, hl2, hb2⟩
  have Hl2 := Lib.hid hl2
  have K22 := Lib.hid (K2.out.below hb2 hgB)
  have Hb2 := Lib.hid (Hb01.out.trans (hb2.mono (by omega)))
  rw [HcS.out] at Hl2
  clear hl2 hb2 Hl K2 K0 K1 Hb01 c0 c1 c2 c3 c4 c5 e0 e1
  obtain ⟨I9, ci9, R9, cr9, H9, ch9, F9, cf9, rfl, rfl, rfl, rfl, hcr, hcg⟩ := st_end Hl2.out K22.out hgB
  obtain ⟨d0, d1, d2, d3, d4, d5⟩ := dgC Hl2.out.blk
  obtain ⟨z0, z1, z2, z3, z4, z5⟩ := dgF K22.out
  obtain ⟨y0, y1, y2, y3, y4, y5⟩ := dgC K22.out
  have K9 := Lib.hid (set6 K22.out (.slice I9 cS.items.length ci9) (.int .i64 cS.win) (.int .i64 cS.base) (.slice R9 cS.rc.length cr9) (.slice H9 cS.held.length ch9) (.slice F9 cS.fl.length cf9))
  have Hcr := Lib.hid hcr; have Hcg := Lib.hid (hcg.mono (by omega : w.heap.size ≤ W0.heap.size))
  have H9b := Lib.hid (below_set6K Hb2.out (by omega : w.heap.size ≤ w.heap.size + 2) (.slice I9 cS.items.length ci9) (.int .i64 cS.win) (.int .i64 cS.base) (.slice R9 cS.rc.length cr9) (.slice H9 cS.held.length ch9) (.slice F9 cS.fl.length cf9))
  clear hcr hcg
  go_wp2_with fail
  obtain ⟨r0, r1, r2, r3, r4, r5⟩ := dgC K9.out
  refine bodyPost_ret (v := .tuple #[.agg #[.slice I9 cS.items.length ci9, .int .i64 cS.win, .int .i64 cS.base, .slice R9 cS.rc.length cr9, .slice H9 cS.held.length ch9, .slice F9 cS.fl.length cf9], .int .i64 0]) (by simp [results, Try.results14, go_sem, r0, r1, r2, r3, r4, r5]) rfl ?_
  exact retSt_ok HE.out HS.out H9b.out Hcr.out Hcg.out
set_option maxRecDepth 100000 in
set_option maxHeartbeats 8000000 in
theorem step3_any (c : Chn) (I : Option Addr) (ci : Nat) (R : Option Addr) (cr : Nat) (H : Option Addr) (ch : Nat) (F : Option Addr) (cf : Nat) (m : Nat) (w : World) (hr : ChR w c I ci R cr H ch F cf) (hc : CI c) (hm : m < c.fl.length) :
    Calls Try.prog 14 #[.agg #[.slice I c.items.length ci, .int .i64 c.win, .int .i64 c.base, .slice R c.rc.length cr, .slice H c.held.length ch, .slice F c.fl.length cf], .agg #[.int .i64 3, .int .i64 (m : Int)]] w (RetSt c 3 (m : Int) w) := by
  have hd : ¬ (m : Int) < 0 := by omega
  have hd2 : ¬ (c.fl.length : Int) ≤ (m : Int) := by omega
  have hE : stepE c 3 (m : Int) = 0 := by unfold stepE; rw [if_neg (by omega), if_pos (.inr (.inl rfl)), if_neg (by omega), if_neg (by omega)]
  obtain ⟨f2, hf2⟩ : ∃ f2, c.fl.take m ++ c.fl.drop (m + 1) = f2 := ⟨_, rfl⟩
  have hS : stepF c 3 (m : Int) = { c with fl := f2 } := by unfold stepF; rw [if_neg (by omega), if_neg (by omega), if_pos rfl, Int.toNat_natCast, ← hf2]; rfl
  have HE := Lib.hid hE; have HS := Lib.hid hS; have Hf2 := Lib.hid hf2
  clear hE hS hf2
  have hfl := hc.fl; have h60 := hc.n60; have hpl := hc.pre.1
  have hhl : c.held.length ≤ 60 := hc.hd.len (by omega) h60
  have hF : ∀ (m : Nat), m < c.fl.length → F ≠ none := fun m hm e => by have := (hr.f0 e).1; rw [this] at hm; simp at hm
  have Hc := Lib.hid hc
  clear hc hF
  go_enter Try.func14, Try.ntmps14
  go_upto_region 1 with fail
  obtain ⟨W0, hW, k0, k1, k2, hb0, hs0⟩ := boxed3A w 50 54 50 #[.slice I c.items.length ci, .int .i64 c.win, .int .i64 c.base, .slice R c.rc.length cr, .slice H c.held.length ch, .slice F c.fl.length cf] #[.int .i64 3, .int .i64 (m : Int)] #[.slice none 0 0, .int .i64 0, .int .i64 0, .slice none 0 0, .slice none 0 0, .slice none 0 0]
  rw [hW]
  obtain ⟨c0, c1, c2, c3, c4, c5⟩ := dgC k0
  obtain ⟨e0, e1, _, _⟩ := k1.two
  have hr0 := hr.below hb0
  clear hW hr
  go_wp2_with fail
  refine (copied_any c I ci R cr H ch F cf W0 hr0 (by omega) (by omega) (by omega) (by omega)).mono ?_
  rintro e w1 ⟨q, iv, rv, hv, fv, rfl, hl, hb1⟩
  have hb01 := endB hb0 hb1
  have k2 := k2.below hb1 (by omega)
  have k1 := k1.below hb1 (by omega)
  have k0 := k0.below hb1 (by omega)
  have hs1 := hb1.size
  have hB1 : W0.heap.size ≤ w1.heap.size := hb1.size
  have hgB : w.heap.size + 2 < W0.heap.size := by omega
  clear c0 c1 c2 c3 c4 c5 e0 e1 hr0 hb0 hb1
  obtain ⟨c0, c1, c2, c3, c4, c5⟩ := dgC k0
  obtain ⟨e0, e1, _, _⟩ := k1.two
  have Hl := Lib.hid hl; have K2 := Lib.hid k2; have K0 := Lib.hid k0; have K1 := Lib.hid k1; have Hb01 := Lib.hid hb01
  clear hl k0 k1 k2 hb01
  have hwm : IntKind.i64.wrap ((m : Int) + 1) = (m : Int) + 1 := by rw [IntKind.wrap_i64]; omega
  obtain ⟨F5, cf5, rfl, _, _, _⟩ := Hl.out.fo.form
  go_upto_region 21 with fail
  refine wp_region_textZ [11, 15] (fun w' => Blk w' q 90 #[iv, .int .i64 c.win, .int .i64 c.base, rv, hv, .slice F5 c.fl.length cf5] ∧ Blk w' (w.heap.size + 1) 54 #[.int .i64 3, .int .i64 (m : Int)]) (fun w' => Below w1.heap.size w1 w') (by kernel_rfl) (by kernel_rfl) (by kernel_rfl) (by kernel_rfl) ⟨Hl.out.blk, K1.out⟩ (Below.refl _ _).drew ?_
  repeat (first
    | (refine TxtZL.skip (by rfl) ?_; simp only [Act.put, List.setIfInBounds_toArray, List.set_cons_zero, List.set_cons_succ])
    | (refine TxtZL.take (by rfl) (by rfl) ?_; apply Exists.intro; refine ⟨fun w1 hS1 => ?_, ?_⟩; (focus ((obtain ⟨g0, g1, g2, g3, g4, g5⟩ := dgC hS1.1); (obtain ⟨x0, x1, _, _⟩ := hS1.2.two); go_simp; with_reducible rfl)); simp only [Act.put, List.setIfInBounds_toArray, List.set_cons_zero, List.set_cons_succ])
    | (refine TxtZL.takeE' (by rfl) (by rfl) ?_; apply Exists.intro; refine ⟨fun w1 hS1 => ?_, ?_⟩; (focus ((obtain ⟨g0, g1, g2, g3, g4, g5⟩ := dgC hS1.1); (obtain ⟨x0, x1, _, _⟩ := hS1.2.two); go_simp; with_reducible rfl)); simp only [Act.put, List.setIfInBounds_toArray, List.set_cons_zero, List.set_cons_succ]))
  refine TxtZL.call (f := 36) (args := #[.slice F5 c.fl.length cf5, .int .i64 (m : Int), .int .i64 ((m : Int) + 1)]) (fun v => ∃ A' c', v = Value.slice A' f2.length c') (fun v w' => ∃ w2, LineAt w2 W0.heap.size q c iv rv hv (.slice F5 c.fl.length cf5) ∧ w2.grownBy w' (Value.slice F5 c.fl.length cf5).ownBlock ∧ OwnK w' W0.heap.size v f2 ∧ (v.ownBlock = (Value.slice F5 c.fl.length cf5).ownBlock ∨ ∀ k, v.ownBlock = some k → w2.heap.size ≤ k) ∧ Below W0.heap.size w1 w') (by rfl) (by rfl) ⟨_, none, 0, rfl⟩ (fun w2 hS2 hJ2 => by go_simp) (fun w2 hS2 hJ2 => ?_) ?_
  · have hl2 := Hl.out.below hJ2
    have hB2 : W0.heap.size ≤ w2.heap.size := by have := hJ2.size; omega
    have hlt2 : ∀ k, (Value.slice F5 c.fl.length cf5).ownBlock = some k → W0.heap.size ≤ k := fun k hk => (hl2.fo.lt k hk).1
    have hdel := delK_any F5 cf5 m W0.heap.size c.fl w2 hl2.fo hm (by omega)
    rw [Hf2.out] at hdel
    refine hdel.mono ?_
    rintro e w' ⟨A', c', rfl, ho, hg, hlv⟩
    exact ⟨_, rfl, ⟨hl2.blk.grown hg (fun e => hl2.fo.ne hl2.blk (by decide) e.symm), hS2.2.grown hg (fun e => by have := hlt2 _ e.symm; omega)⟩, ⟨A', c', rfl⟩, w2, hl2, hg, ho, hlv, (hJ2.mono hB1).trans ((Below.refl _ w2).grown hg hB2 hlt2)⟩
  rintro v ⟨A', c', rfl⟩
  simp only [Act.put, List.setIfInBounds_toArray, List.set_cons_zero, List.set_cons_succ]
  repeat (first
    | (refine TxtZL.skip (by rfl) ?_; simp only [Act.put, List.setIfInBounds_toArray, List.set_cons_zero, List.set_cons_succ])
    | (refine TxtZL.take (by rfl) (by rfl) ?_; apply Exists.intro; refine ⟨fun w1 hS1 => ?_, ?_⟩; (focus (skip; go_simp; with_reducible rfl)); simp only [Act.put, List.setIfInBounds_toArray, List.set_cons_zero, List.set_cons_succ])
    | (refine TxtZL.takeE' (by rfl) (by rfl) ?_; apply Exists.intro; refine ⟨fun w1 hS1 => ?_, ?_⟩; (focus (skip; go_simp; with_reducible rfl)); simp only [Act.put, List.setIfInBounds_toArray, List.set_cons_zero, List.set_cons_succ]))
  refine TxtZL.last (fun w' => LineAt w' W0.heap.size q { c with fl := f2 } iv rv hv (.slice A' f2.length c') ∧ Below W0.heap.size w1 w') (by rfl) (by rfl) (fun w3 hS3 hJ3 => ?_) ?_
  · obtain ⟨w2, hl2, hg, ho, hlv, hb3⟩ := hJ3
    obtain ⟨g0, g1, g2, g3, g4, g5⟩ := dgC hS3.1
    have hfz := hS3.1.frozen 5
    exact Eff.skip (w' := w3.setCell ⟨q, 5, none⟩ (.slice A' f2.length c')) (by go_simp) ⟨hl2.setFl hg ho hlv, hb3.setCell hl2.bq _⟩
  rintro v w3 ⟨hl3, hb3⟩
  simp only [Act.put]
  obtain ⟨cS, hcS⟩ : ∃ cS : Chn, { c with fl := f2 } = cS := ⟨_, rfl⟩
  obtain ⟨u, hu⟩ : ∃ u, Value.slice A' f2.length c' = u := ⟨_, rfl⟩
  rw [hcS] at hl3 HS
  rw [hu] at hl3
  clear hu
  have Hl2 := Lib.hid hl3
  have K22 := Lib.hid (K2.out.below hb3 hgB)
  have Hb2 := Lib.hid (Hb01.out.trans (hb3.mono (by omega)))
  clear hl3 hb3 hcS Hl K2 K0 K1 Hb01 c0 c1 c2 c3 c4 c5 e0 e1
  obtain ⟨I9, ci9, R9, cr9, H9, ch9, F9, cf9, rfl, rfl, rfl, rfl, hcr, hcg⟩ := st_end Hl2.out K22.out hgB
  obtain ⟨d0, d1, d2, d3, d4, d5⟩ := dgC Hl2.out.blk
  obtain ⟨z0, z1, z2, z3, z4, z5⟩ := dgF K22.out
  obtain ⟨y0, y1, y2, y3, y4, y5⟩ := dgC K22.out
  have K9 := Lib.hid (set6 K22.out (.slice I9 cS.items.length ci9) (.int .i64 cS.win) (.int .i64 cS.base) (.slice R9 cS.rc.length cr9) (.slice H9 cS.held.length ch9) (.slice F9 cS.fl.length cf9))
  have Hcr := Lib.hid hcr; have Hcg := Lib.hid (hcg.mono (by omega : w.heap.size ≤ W0.heap.size))
  have H9b := Lib.hid (below_set6K Hb2.out (by omega : w.heap.size ≤ w.heap.size + 2) (.slice I9 cS.items.length ci9) (.int .i64 cS.win) (.int .i64 cS.base) (.slice R9 cS.rc.length cr9) (.slice H9 cS.held.length ch9) (.slice F9 cS.fl.length cf9))
  clear hcr hcg
  go_wp2_with fail
  obtain ⟨r0, r1, r2, r3, r4, r5⟩ := dgC K9.out
  refine bodyPost_ret (v := .tuple #[.agg #[.slice I9 cS.items.length ci9, .int .i64 cS.win, .int .i64 cS.base, .slice R9 cS.rc.length cr9, .slice H9 cS.held.length ch9, .slice F9 cS.fl.length cf9], .int .i64 0]) (by simp [results, Try.results14, go_sem, r0, r1, r2, r3, r4, r5]) rfl ?_
  exact retSt_ok HE.out HS.out H9b.out Hcr.out Hcg.out
set_option maxRecDepth 100000 in
set_option maxHeartbeats 8000000 in
theorem stepF_any (c : Chn) (I : Option Addr) (ci : Nat) (R : Option Addr) (cr : Nat) (H : Option Addr) (ch : Nat) (F : Option Addr) (cf : Nat) (m : Nat) (w : World) (hr : ChR w c I ci R cr H ch F cf) (hc : CI c) (hm : m < c.fl.length) (hfu : 200 ≤ c.fl.length) :
    Calls Try.prog 14 #[.agg #[.slice I c.items.length ci, .int .i64 c.win, .int .i64 c.base, .slice R c.rc.length cr, .slice H c.held.length ch, .slice F c.fl.length cf], .agg #[.int .i64 4, .int .i64 (m : Int)]] w (RetSt c 4 (m : Int) w) := by
  have hd : ¬ (m : Int) < 0 := by omega
  have hd2 : ¬ (c.fl.length : Int) ≤ (m : Int) := by omega
  have hE : stepE c 4 (m : Int) = 2 := by unfold stepE; rw [if_neg (by omega), if_pos (.inr (.inr rfl)), if_neg (by omega), if_pos ⟨rfl, hfu⟩]
  have HE := Lib.hid hE
  have hdf : decide (200 ≤ c.fl.length) = true := decide_eq_true hfu
  clear hE hfu
  have hfl := hc.fl; have h60 := hc.n60; have hpl := hc.pre.1
  have hhl : c.held.length ≤ 60 := hc.hd.len (by omega) h60
  have hF : ∀ (m : Nat), m < c.fl.length → F ≠ none := fun m hm e => by have := (hr.f0 e).1; rw [this] at hm; simp at hm
  have Hc := Lib.hid hc
  clear hc hF
  go_enter Try.func14, Try.ntmps14
  go_upto_region 1 with fail
  obtain ⟨W0, hW, k0, k1, k2, hb0, hs0⟩ := boxed3A w 50 54 50 #[.slice I c.items.length ci, .int .i64 c.win, .int .i64 c.base, .slice R c.rc.length cr, .slice H c.held.length ch, .slice F c.fl.length cf] #[.int .i64 4, .int .i64 (m : Int)] #[.slice none 0 0, .int .i64 0, .int .i64 0, .slice none 0 0, .slice none 0 0, .slice none 0 0]
  rw [hW]
  obtain ⟨c0, c1, c2, c3, c4, c5⟩ := dgC k0
  obtain ⟨e0, e1, _, _⟩ := k1.two
  have hr0 := hr.below hb0
  clear hW hr
  go_wp2_with fail
  refine (copied_any c I ci R cr H ch F cf W0 hr0 (by omega) (by omega) (by omega) (by omega)).mono ?_
  rintro e w1 ⟨q, iv, rv, hv, fv, rfl, hl, hb1⟩
  have hb01 := endB hb0 hb1
  have k2 := k2.below hb1 (by omega)
  have k1 := k1.below hb1 (by omega)
  have k0 := k0.below hb1 (by omega)
  have hs1 := hb1.size
  have hB1 : W0.heap.size ≤ w1.heap.size := hb1.size
  have hgB : w.heap.size + 2 < W0.heap.size := by omega
  clear c0 c1 c2 c3 c4 c5 e0 e1 hr0 hb0 hb1
  obtain ⟨c0, c1, c2, c3, c4, c5⟩ := dgC k0
  obtain ⟨e0, e1, _, _⟩ := k1.two
  have Hl := Lib.hid hl; have K2 := Lib.hid k2; have K0 := Lib.hid k0; have K1 := Lib.hid k1; have Hb01 := Lib.hid hb01
  clear hl k0 k1 k2 hb01
  go_wp2_with fail
  refine (full_any2 W0.heap.size q c iv rv hv fv w1 Hl.out).mono ?_
  rintro e w2 ⟨rfl, hb2⟩
  rw [hdf]
  have K22 := Lib.hid (K2.out.below hb2 (by omega))
  have Hb2 := Lib.hid (Hb01.out.trans (hb2.mono (by omega)))
  clear hb2 Hl K2 K0 K1 Hb01 c0 c1 c2 c3 c4 c5 e0 e1 hdf
  obtain ⟨z0, z1, z2, z3, z4, z5⟩ := dgF K22.out
  obtain ⟨y0, y1, y2, y3, y4, y5⟩ := dgC K22.out
  have K9 := Lib.hid (set6 K22.out (.slice none 0 0) (.int .i64 0) (.int .i64 0) (.slice none 0 0) (.slice none 0 0) (.slice none 0 0))
  have H9b := Lib.hid (below_set6K Hb2.out (by omega : w.heap.size ≤ w.heap.size + 2) (.slice none 0 0) (.int .i64 0) (.int .i64 0) (.slice none 0 0) (.slice none 0 0) (.slice none 0 0))
  go_wp2_with fail
  obtain ⟨r0, r1, r2, r3, r4, r5⟩ := dgC K9.out
  refine bodyPost_ret (v := .tuple #[.agg #[.slice none 0 0, .int .i64 0, .int .i64 0, .slice none 0 0, .slice none 0 0, .slice none 0 0], .int .i64 2]) (by simp [results, Try.results14, go_sem, r0, r1, r2, r3, r4, r5]) rfl ?_
  exact retSt_no HE.out (by decide) H9b.out
set_option maxRecDepth 100000 in
set_option maxHeartbeats 8000000 in
theorem step4_any (c : Chn) (I : Option Addr) (ci : Nat) (R : Option Addr) (cr : Nat) (H : Option Addr) (ch : Nat) (F : Option Addr) (cf : Nat) (m : Nat) (w : World) (hr : ChR w c I ci R cr H ch F cf) (hc : CI c) (hm : m < c.fl.length) (hfu : ¬ 200 ≤ c.fl.length) :
    Calls Try.prog 14 #[.agg #[.slice I c.items.length ci, .int .i64 c.win, .int .i64 c.base, .slice R c.rc.length cr, .slice H c.held.length ch, .slice F c.fl.length cf], .agg #[.int .i64 4, .int .i64 (m : Int)]] w (RetSt c 4 (m : Int) w) := by
  have hd : ¬ (m : Int) < 0 := by omega
  have hd2 : ¬ (c.fl.length : Int) ≤ (m : Int) := by omega
  have hE : stepE c 4 (m : Int) = 0 := by unfold stepE; rw [if_neg (by omega), if_pos (.inr (.inr rfl)), if_neg (by omega), if_neg (fun h => hfu h.2)]
  obtain ⟨f2, hf2⟩ : ∃ f2, c.fl ++ [pk c.fl m] = f2 := ⟨_, rfl⟩
  have hS : stepF c 4 (m : Int) = { c with fl := f2 } := by unfold stepF; rw [if_neg (by omega), if_neg (by omega), if_neg (by omega), Int.toNat_natCast, ← hf2]
  have HE := Lib.hid hE; have HS := Lib.hid hS
  have hdf : decide (200 ≤ c.fl.length) = false := decide_eq_false hfu
  obtain ⟨p, hp⟩ : ∃ p, pk c.fl m = p := ⟨_, rfl⟩
  rw [hp] at hf2
  have Hp := Lib.hid hp; have Hf2 := Lib.hid hf2
  clear hE hS hf2 hp
  obtain ⟨a, x, y⟩ := p
  have hfl := hc.fl; have h60 := hc.n60; have hpl := hc.pre.1
  have hhl : c.held.length ≤ 60 := hc.hd.len (by omega) h60
  have hF : ∀ (m : Nat), m < c.fl.length → F ≠ none := fun m hm e => by have := (hr.f0 e).1; rw [this] at hm; simp at hm
  have Hc := Lib.hid hc
  clear hc hF
  go_enter Try.func14, Try.ntmps14
  go_upto_region 1 with fail
  obtain ⟨W0, hW, k0, k1, k2, hb0, hs0⟩ := boxed3A w 50 54 50 #[.slice I c.items.length ci, .int .i64 c.win, .int .i64 c.base, .slice R c.rc.length cr, .slice H c.held.length ch, .slice F c.fl.length cf] #[.int .i64 4, .int .i64 (m : Int)] #[.slice none 0 0, .int .i64 0, .int .i64 0, .slice none 0 0, .slice none 0 0, .slice none 0 0]
  rw [hW]
  obtain ⟨c0, c1, c2, c3, c4, c5⟩ := dgC k0
  obtain ⟨e0, e1, _, _⟩ := k1.two
  have hr0 := hr.below hb0
  clear hW hr
  go_wp2_with fail
  refine (copied_any c I ci R cr H ch F cf W0 hr0 (by omega) (by omega) (by omega) (by omega)).mono ?_
  rintro e w1 ⟨q, iv, rv, hv, fv, rfl, hl, hb1⟩
  have hb01 := endB hb0 hb1
  have k2 := k2.below hb1 (by omega)
  have k1 := k1.below hb1 (by omega)
  have k0 := k0.below hb1 (by omega)
  have hs1 := hb1.size
  have hB1 : W0.heap.size ≤ w1.heap.size := hb1.size
  have hgB : w.heap.size + 2 < W0.heap.size := by omega
  clear c0 c1 c2 c3 c4 c5 e0 e1 hr0 hb0 hb1
  obtain ⟨c0, c1, c2, c3, c4, c5⟩ := dgC k0
  obtain ⟨e0, e1, _, _⟩ := k1.two
  have Hl := Lib.hid hl; have K2 := Lib.hid k2; have K0 := Lib.hid k0; have K1 := Lib.hid k1; have Hb01 := Lib.hid hb01
  clear hl k0 k1 k2 hb01
  go_wp2_with fail
  refine (full_any2 W0.heap.size q c iv rv hv fv w1 Hl.out).mono ?_
  rintro e w2 ⟨rfl, hb2⟩
  rw [hdf]
  have hB2 : W0.heap.size ≤ w2.heap.size := by have := hb2.size; omega
  have K22 := Lib.hid (K2.out.below hb2 (by omega))
  have K12 := Lib.hid (K1.out.below hb2 (by omega))
  have Hl2 := Lib.hid (Hl.out.below hb2)
  have Hb2 := Lib.hid (Hb01.out.trans (hb2.mono (by omega)))
  clear hb2 Hl K2 K0 K1 Hb01 c0 c1 c2 c3 c4 c5 e0 e1 hdf
  obtain ⟨F5, cf5, rfl, hrf, _, _⟩ := Hl2.out.fo.form
  obtain ⟨b5, o5, rfl, j0, j1, j2⟩ := hrf m hm
  rw [Hp.out] at j0 j1 j2
  simp only at j0 j1 j2
  have J0 := Lib.hid (And.intro j0 (And.intro j1 j2))
  have hm0 : (0 : Int) ≤ (m : Int) := by omega
  have hm1 : (m : Int) < (c.fl.length : Int) := by omega
  clear hrf j0 j1 j2
  obtain ⟨x0, x1, _, _⟩ := K12.out.two
  go_upto_region 17 with fail
  refine wp_region_textZ [14, 15, 16, 20] (fun w' => (Blk w' q 90 #[iv, .int .i64 c.win, .int .i64 c.base, rv, hv, .slice (some ⟨b5, o5, none⟩) c.fl.length cf5] ∧ Blk w' (w.heap.size + 1) 54 #[.int .i64 4, .int .i64 (m : Int)])) (fun w' => Below w2.heap.size w2 w') (by kernel_rfl) (by kernel_rfl) (by kernel_rfl) (by kernel_rfl) ⟨Hl2.out.blk, K12.out⟩ (Below.refl _ _).drew ?_
  repeat (first
    | (refine TxtZL.skip (by rfl) ?_; simp only [Act.put, List.setIfInBounds_toArray, List.set_cons_zero, List.set_cons_succ])
    | (refine TxtZL.take (by rfl) (by rfl) ?_; apply Exists.intro; refine ⟨fun w1 hS1 => ?_, ?_⟩; (focus ((obtain ⟨g0, g1, g2, g3, g4, g5⟩ := dgC hS1.1); (obtain ⟨x0, x1, _, _⟩ := hS1.2.two); go_simp; with_reducible rfl)); simp only [Act.put, List.setIfInBounds_toArray, List.set_cons_zero, List.set_cons_succ])
    | (refine TxtZL.takeE' (by rfl) (by rfl) ?_; apply Exists.intro; refine ⟨fun w1 hS1 => ?_, ?_⟩; (focus ((obtain ⟨g0, g1, g2, g3, g4, g5⟩ := dgC hS1.1); (obtain ⟨x0, x1, _, _⟩ := hS1.2.two); go_simp; with_reducible rfl)); simp only [Act.put, List.setIfInBounds_toArray, List.set_cons_zero, List.set_cons_succ]))
  refine TxtZL.eff (fun v => v = .agg #[.bool a, .int .i64 x, .int .i64 y]) (fun _ w' => Below w2.heap.size w2 w') (by rfl) (by rfl) ⟨_, rfl⟩ (fun w3 hS3 hJ3 => ?_) ?_
  · have j0 := (hJ3.cell (lt_of_cell J0.out.1)).trans J0.out.1
    have j1 := (hJ3.cell (lt_of_cell J0.out.2.1)).trans J0.out.2.1
    have j2 := (hJ3.cell (lt_of_cell J0.out.2.2)).trans J0.out.2.2
    exact Eff.value (by go_simp) ⟨hS3, rfl, hJ3⟩
  rintro v rfl
  simp only [Act.put, List.setIfInBounds_toArray, List.set_cons_zero, List.set_cons_succ]
  refine TxtZL.eff (fun v => ∃ gv : Nat, v = .slice (some ⟨gv, 0, none⟩) 1 1) (fun v w' => LineAt w' W0.heap.size q c iv rv hv (.slice (some ⟨b5, o5, none⟩) c.fl.length cf5) ∧ Below w2.heap.size w2 w' ∧ ∃ gv : Nat, v = .slice (some ⟨gv, 0, none⟩) 1 1 ∧ Blk w' gv 94 #[.bool a, .int .i64 x, .int .i64 y]) (by rfl) (by rfl) ⟨_, 0, rfl⟩ (fun w3 hS3 hJ3 => ?_) ?_
  · have hl3 := Hl2.out.below hJ3
    exact Eff.value (w' := w3.alloc (.cells #[.bool a, .int .i64 x, .int .i64 y] 94)) (v := .slice (some ⟨w3.heap.size, 0, none⟩) 1 1) (by go_simp) ⟨⟨hS3.1.alloc _, hS3.2.alloc _⟩, ⟨_, rfl⟩, hl3.below (newB _ _), hJ3.trans ((newB _ _).mono hJ3.size), _, rfl, Blk.new _ _ _⟩
  rintro v ⟨gv, rfl⟩
  simp only [Act.put, List.setIfInBounds_toArray, List.set_cons_zero, List.set_cons_succ]
  refine TxtZL.eff (fun v => ∃ A' c', v = Value.slice A' f2.length c') (fun v w' => ∃ w3, LineAt w3 W0.heap.size q c iv rv hv (.slice (some ⟨b5, o5, none⟩) c.fl.length cf5) ∧ w3.grownBy w' (Value.slice (some ⟨b5, o5, none⟩) c.fl.length cf5).ownBlock ∧ OwnK w' W0.heap.size v f2 ∧ (v.ownBlock = (Value.slice (some ⟨b5, o5, none⟩) c.fl.length cf5).ownBlock ∨ ∀ k, v.ownBlock = some k → w3.heap.size ≤ k) ∧ Below W0.heap.size w2 w') (by rfl) (by rfl) ⟨_, none, 0, rfl⟩ (fun w3 hS3 hJ3 => Eff.of_list (ops := #[]) (by rfl) ?_) ?_
  · obtain ⟨hl3, hb3, gv', e, hV⟩ := hJ3
    injection e with e _ _; injection e with e; injection e with e _; subst e
    have hB3 : W0.heap.size ≤ w3.heap.size := by have := hb3.size; omega
    refine wpList_appK (by rfl) _ _ (by rfl) w3 W0.heap.size _ c.fl (some ⟨gv, 0, none⟩) [(a, x, y)] 1 hl3.fo (rk_one hV) (fun e => by cases e) (by rfl) (by rfl) (by simp; omega) hB3 ?_
    intro v' w' ho hb' hg hlv
    rw [Hf2.out] at ho
    obtain ⟨A', c', e', _, _, _⟩ := ho.form
    exact ⟨rfl, v', rfl, ⟨hl3.blk.grown hg (fun e => hl3.fo.ne hl3.blk (by decide) e.symm), hS3.2.grown hg (fun e => by have := (hl3.fo.lt _ e.symm).1; omega)⟩, ⟨A', c', e'⟩, w3, hl3, hg, ho, hlv, (hb3.mono hB2).trans hb'⟩
  rintro v ⟨A', c', rfl⟩
  simp only [Act.put, List.setIfInBounds_toArray, List.set_cons_zero, List.set_cons_succ]
  repeat (first
    | (refine TxtZL.skip (by rfl) ?_; simp only [Act.put, List.setIfInBounds_toArray, List.set_cons_zero, List.set_cons_succ])
    | (refine TxtZL.take (by rfl) (by rfl) ?_; apply Exists.intro; refine ⟨fun w1 hS1 => ?_, ?_⟩; (focus (skip; go_simp; with_reducible rfl)); simp only [Act.put, List.setIfInBounds_toArray, List.set_cons_zero, List.set_cons_succ])
    | (refine TxtZL.takeE' (by rfl) (by rfl) ?_; apply Exists.intro; refine ⟨fun w1 hS1 => ?_, ?_⟩; (focus (skip; go_simp; with_reducible rfl)); simp only [Act.put, List.setIfInBounds_toArray, List.set_cons_zero, List.set_cons_succ]))
  refine TxtZL.last (fun w' => LineAt w' W0.heap.size q { c with fl := f2 } iv rv hv (.slice A' f2.length c') ∧ Below W0.heap.size w2 w') (by rfl) (by rfl) (fun w4 hS4 hJ4 => ?_) ?_
  · obtain ⟨w3, hl3, hg, ho, hlv, hb4⟩ := hJ4
    obtain ⟨g0, g1, g2, g3, g4, g5⟩ := dgC hS4.1
    have hfz := hS4.1.frozen 5
    exact Eff.skip (w' := w4.setCell ⟨q, 5, none⟩ (.slice A' f2.length c')) (by go_simp) ⟨hl3.setFl hg ho hlv, hb4.setCell hl3.bq _⟩
  rintro v w4 ⟨hl4, hb4⟩
  simp only [Act.put]
  obtain ⟨cS, hcS⟩ : ∃ cS : Chn, { c with fl := f2 } = cS := ⟨_, rfl⟩
  obtain ⟨u, hu⟩ : ∃ u, Value.slice A' f2.length c' = u := ⟨_, rfl⟩
  rw [hcS] at hl4 HS
  rw [hu] at hl4
  clear hu
  have Hl4 := Lib.hid hl4
  have K24 := Lib.hid (K22.out.below hb4 hgB)
  have Hb4 := Lib.hid (Hb2.out.trans (hb4.mono (by omega)))
  clear hl4 hb4 hcS Hl2 K22 K12 Hb2 x0 x1
  obtain ⟨I9, ci9, R9, cr9, H9, ch9, F9, cf9, rfl, rfl, rfl, rfl, hcr, hcg⟩ := st_end Hl4.out K24.out hgB
  obtain ⟨d0, d1, d2, d3, d4, d5⟩ := dgC Hl4.out.blk
  obtain ⟨z0, z1, z2, z3, z4, z5⟩ := dgF K24.out
  obtain ⟨y0, y1, y2, y3, y4, y5⟩ := dgC K24.out
  have K9 := Lib.hid (set6 K24.out (.slice I9 cS.items.length ci9) (.int .i64 cS.win) (.int .i64 cS.base) (.slice R9 cS.rc.length cr9) (.slice H9 cS.held.length ch9) (.slice F9 cS.fl.length cf9))
  have Hcr := Lib.hid hcr; have Hcg := Lib.hid (hcg.mono (by omega : w.heap.size ≤ W0.heap.size))
  have H9b := Lib.hid (below_set6K Hb4.out (by omega : w.heap.size ≤ w.heap.size + 2) (.slice I9 cS.items.length ci9) (.int .i64 cS.win) (.int .i64 cS.base) (.slice R9 cS.rc.length cr9) (.slice H9 cS.held.length ch9) (.slice F9 cS.fl.length cf9))
  clear hcr hcg
  go_wp2_with fail
  obtain ⟨r0, r1, r2, r3, r4, r5⟩ := dgC K9.out
  refine bodyPost_ret (v := .tuple #[.agg #[.slice I9 cS.items.length ci9, .int .i64 cS.win, .int .i64 cS.base, .slice R9 cS.rc.length cr9, .slice H9 cS.held.length ch9, .slice F9 cS.fl.length cf9], .int .i64 0]) (by simp [results, Try.results14, go_sem, r0, r1, r2, r3, r4, r5]) rfl ?_
  exact retSt_ok HE.out HS.out H9b.out Hcr.out Hcg.out
theorem chStep_any (c : Chn) (I : Option Addr) (ci : Nat) (R : Option Addr) (cr : Nat) (H : Option Addr) (ch : Nat) (F : Option Addr) (cf : Nat) (k n : Int) (w : World) (hr : ChR w c I ci R cr H ch F cf) (hc : CI c) (hn0 : -9223372036854775808 ≤ n) (hn1 : n ≤ 9223372036854775807) :
    Calls Try.prog 14 #[.agg #[.slice I c.items.length ci, .int .i64 c.win, .int .i64 c.base, .slice R c.rc.length cr, .slice H c.held.length ch, .slice F c.fl.length cf], .agg #[.int .i64 k, .int .i64 n]] w (RetSt c k n w) := by
  by_cases h1 : k = 1
  · subst h1; exact step1_any c I ci R cr H ch F cf n w hr hc hn0 hn1
  by_cases hk : k = 2 ∨ k = 3 ∨ k = 4
  · by_cases hn : n < 0 ∨ (c.fl.length : Int) ≤ n
    · exact stepR_any c I ci R cr H ch F cf k n w hr hc hk hn
    · obtain ⟨m, rfl⟩ : ∃ m : Nat, n = (m : Int) := ⟨n.toNat, by omega⟩
      have hm : m < c.fl.length := by omega
      rcases hk with rfl | rfl | rfl
      · exact step2_any c I ci R cr H ch F cf m w hr hc hm
      · exact step3_any c I ci R cr H ch F cf m w hr hc hm
      · by_cases hf : 200 ≤ c.fl.length
        · exact stepF_any c I ci R cr H ch F cf m w hr hc hm hf
        · exact step4_any c I ci R cr H ch F cf m w hr hc hm hf
  · exact step0_any c I ci R cr H ch F cf k n w hr hc h1 (by omega) (by omega) (by omega)
end Go.Proofs.Ythkknlnfdckdfaa
