/- deliver: a packet is taken out of the network and given to its receiver. -/
import Derived.Test.YthkknlnfdckdfaaCn2
namespace Go.Proofs.Ythkknlnfdckdfaa
open Go.ChangeShapes Go.WideShapes Go.ChangeAt Go.RowKit

theorem set3K {w : World} {g : Nat} {t : TypeId} {x y z : Value} (h : Blk w g t #[x, y, z]) (x' y' z' : Value) : Blk (((w.setCell ⟨g, 0, none⟩ x').setCell ⟨g, 1, none⟩ y').setCell ⟨g, 2, none⟩ z') g t #[x', y', z'] :=
  ((h.set_ 0 x').set_ 1 y').set_ 2 z'
theorem below_set3K {B : Nat} {w w' : World} {g : Nat} (h : Below B w w') (hg : B ≤ g) (x y z : Value) : Below B w (((w'.setCell ⟨g, 0, none⟩ x).setCell ⟨g, 1, none⟩ y).setCell ⟨g, 2, none⟩ z) :=
  ((h.setCell (p := ⟨g, 0, none⟩) hg x).setCell (p := ⟨g, 1, none⟩) hg y).setCell (p := ⟨g, 2, none⟩) hg z
theorem LineAt.delFl {w w' : World} {B q : Nat} {c : Chn} {iv rv hv fv fv' : Value} {fl' : List Pk} (h : LineAt w B q c iv rv hv fv) (hg : w.grownBy w' fv.ownBlock) (ho : OwnK w' B fv' fl') (hl : fv'.ownBlock = fv.ownBlock ∨ ∀ k, fv'.ownBlock = some k → w.heap.size ≤ k) :
    LineAt (w'.setCell ⟨q, 5, none⟩ fv') B q { c with fl := fl' } iv rv hv fv' := h.setFl hg ho hl
set_option maxRecDepth 100000 in
set_option maxHeartbeats 8000000 in
theorem deliv_any (B q n : Nat) (c : Chn) (iv rv hv fv : Value) (w : World) (h : LineAt w B q c iv rv hv fv) (hc : CI c) (hn : n < c.fl.length) (hB : B ≤ w.heap.size) :
    Calls Try.prog 35 #[.pointer (some ⟨q, 0, none⟩), .int .i64 (n : Int)] w (RetLn B q (delivF c n) (.tuple #[]) w) := by
  have hfl := hc.fl
  obtain ⟨F, fc, rfl, hrf, hnf, hlf⟩ := h.fo.form
  have hl : (dropK c.fl n).length ≤ 200 := Nat.le_trans dropK_len hc.fl
  have hc1 := hc.flOf hl (fun q hq => hc.pk q (dropK_sub q hq))
  have hpk := hc.pk _ (pk_mem hn)
  obtain ⟨b, o, rfl, e0, e1, e2⟩ := hrf n hn
  have hdl : delivF c n = if (pk c.fl n).1 = true then { c with fl := dropK c.fl n, base := max c.base (pk c.fl n).2.1 } else recvF { c with fl := dropK c.fl n } (pk c.fl n) := rfl
  obtain ⟨fl2, hfl2⟩ : ∃ fl2, c.fl.take n ++ c.fl.drop (n + 1) = fl2 := ⟨_, rfl⟩
  have hdk : dropK c.fl n = fl2 := hfl2
  rw [hdk] at hc1 hdl
  have Hfl2 := Lib.hid hfl2
  clear hdk hfl2 hl
  generalize pk c.fl n = p at *
  obtain ⟨a, x, y⟩ := p
  simp only at e0 e1 e2
  have hn1 : (0 : Int) ≤ (n : Int) := by omega
  have hn2 : (n : Int) < (c.fl.length : Int) := by omega
  have hwr : IntKind.i64.wrap ((n : Int) + 1) = (n : Int) + 1 := by rw [IntKind.wrap_i64]; omega
  obtain ⟨d0, d1, d2, d3, d4, d5⟩ := dgC h.blk
  have Hh := Lib.hid h; have Hc1 := Lib.hid hc1; have Hpk := Lib.hid hpk; have Hdl := Lib.hid hdl
  have hrn := hc.b1
  clear h hc hc1 hpk hdl hrf hnf hlf
  go_enter Try.func35, Try.ntmps35
  go_upto_region 1 with fail
  obtain ⟨W1, hW, k1, hb1, hs0⟩ := boxedA w 94 #[.bool a, .int .i64 x, .int .i64 y]
  rw [hW]
  have Hh1 := Lib.hid (Hh.out.below hb1)
  have hs1 := k1.lt
  have hlt := Hh.out.fo.lt
  clear hW hs0 d0 d1 d2 d3 d4 d5 e0 e1 e2
  obtain ⟨d0, d1, d2, d3, d4, d5⟩ := dgC Hh1.out.blk
  have HF := Lib.hid (show ∀ k, (Value.slice (some ⟨b, o, none⟩) c.fl.length fc).ownBlock = some k → k < w.heap.size from fun k hk => (hlt k hk).2)
  have hBW : B ≤ W1.heap.size := by omega
  have K1 := Lib.hid k1; have Hb1 := Lib.hid hb1
  clear k1 hb1 hlt
  go_wp2_with fail
  have hdel := delK_any _ fc n B c.fl W1 Hh1.out.fo hn (by omega)
  rw [Hfl2.out] at hdel
  refine hdel.mono ?_
  clear hdel
  rintro e w2 ⟨A', c', rfl, ho, hg, hlv⟩
  have hb2 : Below B W1 w2 := (Below.refl B W1).grown hg hBW (fun k hk => (Hh1.out.fo.lt k hk).1)
  have k2 := K1.out.grown hg (fun e => by have := HF.out _ e.symm; omega)
  have hl2 := Hh1.out.setFl hg ho hlv
  have hbq := Hh1.out.bq
  have hB2 := Hh1.out.blk.grown hg (fun e => Hh1.out.fo.ne Hh1.out.blk (by decide) e.symm)
  have hfz := hB2.frozen 5
  have hqw : q ≠ w.heap.size := by have := Hh.out.blk.lt; omega
  have k3 := k2.far (p := ⟨q, 5, none⟩) (fun e => hqw e.symm) (.slice A' fl2.length c')
  have hb3 := hb2.setCell (p := ⟨q, 5, none⟩) hbq (.slice A' fl2.length c')
  obtain ⟨g0, g1, g2, g3, g4, g5⟩ := dgC hB2
  have hb4 := (Hb1.out.mono hB).trans hb3
  have HB2 := Lib.hid hB2
  clear hb2 ho hlv d0 d1 d2 d3 d4 d5 hb3 k2
  go_upto_region 2 with fail
  obtain ⟨W3, hW3⟩ : ∃ W, w2.setCell ⟨q, 5, none⟩ (.slice A' fl2.length c') = W := ⟨_, rfl⟩
  rw [hW3] at hl2 k3 hb4 ⊢
  have Hl2 := Lib.hid hl2; have Hb4 := Lib.hid hb4
  obtain ⟨d0, d1, d2, d3, d4, d5⟩ := dgC hl2.blk
  have hf2 := hl2.blk.frozen 2
  have p0 : W3.cell? ⟨w.heap.size, 0, none⟩ = some (.bool a) := k3.cell 0
  have p1 : W3.cell? ⟨w.heap.size, 1, none⟩ = some (.int .i64 x) := k3.cell 1
  have p2 : W3.cell? ⟨w.heap.size, 2, none⟩ = some (.int .i64 y) := k3.cell 2
  have K3' := Lib.hid k3
  have hB3 : B ≤ W3.heap.size := by have := k3.lt; omega
  clear hW3 hl2 hb4 k3 hB2 g0 g1 g2 g3 g4 g5 hg hfz
  cases a
  case true =>
    have hdl : delivF c n = { c with fl := fl2, base := max c.base x } := by rw [Hdl.out, if_pos rfl]
    have Hd := Lib.hid hdl
    clear hdl
    go_upto_region 3 with fail
    refine wp_region_textZ [12] (fun w' => Blk w' q 90 #[iv, .int .i64 c.win, .int .i64 c.base, rv, hv, .slice A' fl2.length c'] ∧ Blk w' w.heap.size 94 #[.bool true, .int .i64 x, .int .i64 y]) (fun w' => Below W3.heap.size W3 w') (by kernel_rfl) (by kernel_rfl) (by kernel_rfl) (by kernel_rfl) ⟨Hl2.out.blk, K3'.out⟩ (Below.refl _ _).drew ?_
    repeat (first
      | (refine TxtZL.skip (by rfl) ?_; simp only [Act.put, List.setIfInBounds_toArray, List.set_cons_zero, List.set_cons_succ])
      | (refine TxtZL.take (by rfl) (by rfl) ?_; apply Exists.intro; refine ⟨fun w1 hS1 => ?_, ?_⟩; (focus ((obtain ⟨g0, g1, g2, g3, g4, g5⟩ := dgC hS1.1); (have x1 : w1.cell? ⟨w.heap.size, 1, none⟩ = some (.int .i64 x) := hS1.2.cell 1); go_simp; with_reducible rfl)); simp only [Act.put, List.setIfInBounds_toArray, List.set_cons_zero, List.set_cons_succ])
      | (refine TxtZL.takeE' (by rfl) (by rfl) ?_; apply Exists.intro; refine ⟨fun w1 hS1 => ?_, ?_⟩; (focus ((obtain ⟨g0, g1, g2, g3, g4, g5⟩ := dgC hS1.1); (have x1 : w1.cell? ⟨w.heap.size, 1, none⟩ = some (.int .i64 x) := hS1.2.cell 1); go_simp; with_reducible rfl)); simp only [Act.put, List.setIfInBounds_toArray, List.set_cons_zero, List.set_cons_succ]))
    refine TxtZL.last (fun w' => LineAt w' B q { c with fl := fl2, base := max c.base x } iv rv hv (.slice A' fl2.length c') ∧ Below B W3 w') (by rfl) (by rfl) (fun w4 hS4 hJ4 => ?_) ?_
    · obtain ⟨g0, g1, g2, g3, g4, g5⟩ := dgC hS4.1
      have hfz := hS4.1.frozen 2
      exact Eff.skip (w' := w4.setCell ⟨q, 2, none⟩ (.int .i64 (max c.base x))) (by go_simp) ⟨(Hl2.out.below hJ4).setB _, (hJ4.mono hB3).setCell Hl2.out.bq _⟩
    rintro v w4 ⟨hl4, hb5⟩
    simp only [Act.put]
    have Hl4 := Lib.hid hl4; have Hb5 := Lib.hid hb5
    clear hl4 hb5
    go_wp2_with fail
    refine bodyPost_ret (v := .tuple #[]) (by simp [results, Try.results35, go_sem]) rfl ?_
    rw [Hd.out]
    exact ⟨_, _, _, _, rfl, Hl4.out, Hb4.out.trans Hb5.out⟩
  case false =>
    have hdl : delivF c n = recvF { c with fl := fl2 } (false, x, y) := by rw [Hdl.out, if_neg (by simp)]
    have Hd := Lib.hid hdl
    have hp : 0 ≤ x ∧ x < (c.items.length : Int) ∧ y = itemAt c.items x := by
      have := Hpk.out
      unfold PkOk at this
      rwa [if_neg (by simp)] at this
    have Hp := Lib.hid hp
    clear hdl hp
    go_wp2_with fail
    refine (recv_any B q { c with fl := fl2 } (false, x, y) iv rv hv (.slice A' fl2.length c') W3 Hl2.out Hc1.out Hp.out hB3).mono ?_
    rintro e w4 ⟨iv', rv', hv', fv', rfl, hl4, hb5⟩
    have Hl4 := Lib.hid hl4; have Hb5 := Lib.hid hb5
    clear hl4 hb5
    go_wp2_with fail
    refine bodyPost_ret (v := .tuple #[]) (by simp [results, Try.results35, go_sem]) rfl ?_
    rw [Hd.out]
    exact ⟨_, _, _, _, rfl, Hl4.out, Hb4.out.trans Hb5.out⟩
end Go.Proofs.Ythkknlnfdckdfaa
