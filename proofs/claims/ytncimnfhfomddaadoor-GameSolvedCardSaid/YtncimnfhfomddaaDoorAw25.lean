/- The examples of the chapter on games. -/
import Derived.Test.YtncimnfhfomddaaDoorCk
namespace Go.Proofs.YtncimnfhfomddaaDoor
open Go.ChangeShapes Go.WideShapes Go.ChangeAt Go.RowKit

set_option maxRecDepth 100000 in
set_option maxHeartbeats 8000000 in
theorem same25_any (k r b : Int) (A1 A2 : Option Addr) (OO : List (Nat × Nat)) (c1 c2 : Nat) (w : World) (h1 : RP w A1 (OO.map toI)) (h2 : RP w A2 (OO.map toI)) (hl : OO.length ≤ 100000) :
    Calls Tryd.prog 74 #[.agg #[.int .i64 k, .int .i64 r, .int .i64 b, .slice A1 OO.length c1], .agg #[.int .i64 k, .int .i64 r, .int .i64 b, .slice A2 OO.length c2]] w (RetB (.bool true) w) := by
  go_enter Tryd.func74, Tryd.ntmps74
  go_wp2_with fail
  obtain ⟨W0, hW, k0, k1, hb0, hs0⟩ : ∃ W0, (w.alloc (.cells #[.int .i64 k, .int .i64 r, .int .i64 b, .slice A1 OO.length c1] 64)).alloc (.cells #[.int .i64 k, .int .i64 r, .int .i64 b, .slice A2 OO.length c2] 64) = W0 ∧ Blk W0 w.heap.size 64 #[.int .i64 k, .int .i64 r, .int .i64 b, .slice A1 OO.length c1] ∧ Blk W0 (w.heap.size + 1) 64 #[.int .i64 k, .int .i64 r, .int .i64 b, .slice A2 OO.length c2] ∧ Below w.heap.size w W0 ∧ W0.heap.size = w.heap.size + 2 :=
    ⟨_, rfl, (Blk.new _ _ _).alloc _, by have := Blk.new (w.alloc (.cells #[.int .i64 k, .int .i64 r, .int .i64 b, .slice A1 OO.length c1] 64)) 64 #[.int .i64 k, .int .i64 r, .int .i64 b, .slice A2 OO.length c2]; rw [World.size_alloc] at this; exact this, ((Below.refl _ _).alloc (Nat.le_refl _) _).alloc (by simp) _, by simp⟩
  rw [hW]
  have u3 : W0.cell? ⟨w.heap.size, 3, none⟩ = some (.slice A1 OO.length c1) := k0.cell 3
  have v3 : W0.cell? ⟨w.heap.size + 1, 3, none⟩ = some (.slice A2 OO.length c2) := k1.cell 3
  have H1 := Lib.hid (h1.below hb0); have H2 := Lib.hid (h2.below hb0)
  clear hW k0 k1 hs0 h1 h2
  go_loopw [5] (fun t5 wx => ∃ q nd : Nat, q ≤ OO.length ∧ t5 = .int .i64 (q : Int) ∧ wx = W0.drewN nd) (fun t5 _ => OO.length - (intOf t5).toNat)
  case atStart => exact ⟨0, 0, Nat.zero_le _, rfl, rfl⟩
  case round =>
    obtain ⟨q, nd, hq, rfl, rfl⟩ := hrel
    by_cases hqy : q < OO.length
    case neg =>
      have hqe : q = OO.length := by omega
      clear hq
      subst hqe
      go_wp2_with fail
      go_ret
      exact ⟨rfl, below_drewN hb0 _⟩
    case pos =>
    obtain ⟨bb, oo, hA1, hc0, hc1⟩ := toI_at H1.out hqy
    obtain ⟨bb', oo', hA2, hc2, hc3⟩ := toI_at H2.out hqy
    subst hA1; subst hA2
    have hq0 : (0 : Int) ≤ (q : Int) := by omega
    have hql : (q : Int) < (OO.length : Int) := by omega
    go_wp2_with fail
    go_quiet (fail)
    go_wp2_with fail
    go_roundw
    case rel => exact ⟨q + 1, nd + nq, by omega, by go_num, rfl⟩
    case measure => simp [intOf]; omega

def gA : List (Int × Int) := [(0, 1), (1, 0)]
theorem gA_vld : Vld 2 gA := by
  refine ⟨⟨by decide, by decide, by decide⟩, ?_⟩
  unfold gA
  simp [ltP]
theorem gA_gs : gsB 2 gA 0 = false := by decide
theorem gA_sr : srS 2 (attQ gA) 3 1 = some 1 := by decide
theorem gA_oo {pick : Nat → Nat} {R : List Nat} {OO : List (Nat × Nat)} (h : AnOk 2 (attQ gA) pick (fun a => (1 : Nat).testBit a = true) 0 R OO) : OO = [(1, 0)] := by
  have hR : ∀ a ∈ R, a = 0 := fun a ha => by
    obtain ⟨h1, h2⟩ := h.ok a ha
    rcases (by omega : a = 0 ∨ a = 1) with e | e
    · exact e
    · subst e; exact absurd h2 (by decide)
  have hO : ∀ p ∈ OO, p = (1, 0) := fun p hp => by
    obtain ⟨h1, h2, h3, a, ha, h4⟩ := h.o p hp
    rw [hR a ha] at h4
    have e2 := hR _ h2
    rcases (by omega : p.1 = 0 ∨ p.1 = 1) with e | e
    · rw [e] at h4; exact absurd h4 (by decide)
    · exact Prod.ext e e2
  have hm := h.all 0 h.root 1 (by decide)
  have hs := h.asc
  match OO, hO, hm, hs with
  | [], _, hm, _ => cases hm
  | [p], hO, _, _ => rw [hO p (List.mem_cons_self ..)]
  | p :: q :: r, hO, _, hs =>
    have h1 := hO p (List.mem_cons_self ..)
    have h2 := hO q (List.mem_cons_of_mem _ (List.mem_cons_self ..))
    have h3 := (List.pairwise_cons.1 hs).1 q (List.mem_cons_self ..)
    rw [h1, h2] at h3
    exact absurd h3 (by decide)

set_option maxRecDepth 100000 in
set_option maxHeartbeats 8000000 in
theorem awake25_any (w : World) (hT : Tab w) : Calls Tryd.prog 34 #[] w (RetB (.bool true) w) := by
  go_enter Tryd.func34, Tryd.ntmps34
  go_wp2_with fail
  obtain ⟨W0, hW, hr0, k0, hb0⟩ : ∃ W0, (w.alloc (.cells #[.int .i64 0, .int .i64 1, .int .i64 1, .int .i64 0] 42)).alloc (.cells #[.int .i64 2, .slice (some ⟨w.heap.size, 0, none⟩) 2 2] 24) = W0 ∧ RP W0 (some ⟨w.heap.size, 0, none⟩) gA ∧ Blk W0 (w.heap.size + 1) 24 #[.int .i64 2, .slice (some ⟨w.heap.size, 0, none⟩) 2 2] ∧ Below w.heap.size w W0 := by
    refine ⟨_, rfl, ?_, ?_, ((Below.refl _ _).alloc (Nat.le_refl _) _).alloc (by simp) _⟩
    · have hk := (Blk.new w 42 #[.int .i64 0, .int .i64 1, .int .i64 1, .int .i64 0]).alloc (.cells #[.int .i64 2, .slice (some ⟨w.heap.size, 0, none⟩) 2 2] 24)
      intro j hj
      rcases (by have : j < 2 := hj; omega : j = 0 ∨ j = 1) with e | e
      · subst e; exact ⟨_, 0, rfl, hk.cell 0, hk.cell 1⟩
      · subst e; exact ⟨_, 0, rfl, hk.cell 2, hk.cell 3⟩
    · have := Blk.new (w.alloc (.cells #[.int .i64 0, .int .i64 1, .int .i64 1, .int .i64 0] 42)) 24 #[.int .i64 2, .slice (some ⟨w.heap.size, 0, none⟩) 2 2]
      rw [World.size_alloc] at this; exact this
  rw [hW]
  have hT0 := hT.below hb0
  have hG : w.heap.size + 1 < W0.heap.size := k0.lt
  obtain ⟨G, hGe⟩ : ∃ G, w.heap.size = G := ⟨_, rfl⟩
  rw [hGe] at hr0 k0 hG hb0 ⊢
  clear hW hT
  refine (gSolveG_any (some ⟨G, 0, none⟩) (n := 2) (l := gA) 2 0 gA_vld (by decide) W0 hr0 hT0).mono ?_
  rintro e w1 ⟨hb1, R1, O1, A1, c1, hl1, hr1, -, ⟨hx, -⟩ | ⟨-, rfl, hok1⟩⟩
  · rw [gA_gs] at hx; cases hx
  have k1 := k0.below hb1 k0.lt
  obtain ⟨c0, c0', -, -⟩ := k1.two
  have hrg := hr0.below hb1
  have hT1 := hT0.below hb1
  have hb01 := hb0.trans (hb1.mono (by omega))
  have hs1 := hb1.size
  have Hok1 := Lib.hid hok1
  clear k0 hr0 hT0 hb0 hb1 hok1
  go_upto_region 3 with fail
  obtain ⟨W2, hW2, k2, hb2, hs2⟩ : ∃ W2, w1.alloc (.cells #[.int .i64 1, .int .i64 0, .int .i64 2, .slice A1 O1.length c1] 64) = W2 ∧ Blk W2 w1.heap.size 64 #[.int .i64 1, .int .i64 0, .int .i64 2, .slice A1 O1.length c1] ∧ Below w1.heap.size w1 W2 ∧ W2.heap.size = w1.heap.size + 1 := ⟨_, rfl, Blk.new _ _ _, newB _ _, by simp⟩
  rw [hW2]
  have k1' := k1.below hb2 k1.lt
  have hrg2 := hrg.below hb2
  have hT2 := hT1.below hb2
  have hr12 := hr1.below hb2
  have hb02 := hb01.trans (hb2.mono (by omega))
  obtain ⟨d0, d1, -, -⟩ := k1'.two
  clear hW2 k1 hrg hT1 hr1 c0 c0' hb01 hb2
  go_wp2_with fail
  refine (gSolveC_any (some ⟨G, 0, none⟩) (n := 2) (l := gA) 2 0 gA_vld (by decide) (by decide) W2 hrg2 hT2).mono ?_
  rintro e w3 ⟨hb3, h3⟩
  rw [show srS 2 (attQ gA) (2 + 1) (1 <<< 0) = some 1 from gA_sr] at h3
  obtain ⟨R2, O2, A2, c2, rfl, hok2, hl2, hr2, -⟩ := h3
  have hO2 : O2 = [(1, 0)] := gA_oo hok2
  subst hO2
  have k1 := k1'.below hb3 k1'.lt
  have k23 := k2.below hb3 k2.lt
  have hrg3 := hrg2.below hb3
  have hT3 := hT2.below hb3
  have hr13 := hr12.below hb3
  have hb03 := hb02.trans (hb3.mono (by omega))
  have hs3 := hb3.size
  have Hok2 := Lib.hid hok2
  clear k1' k2 hrg2 hT2 hr12 hb02 hb3 hok2 d0 d1
  go_upto_region 4 with fail
  obtain ⟨W4, hW4, k4, hb4, hs4⟩ : ∃ W4, w3.alloc (.cells #[.int .i64 2, .int .i64 0, .int .i64 1, .slice A2 1 c2] 64) = W4 ∧ Blk W4 w3.heap.size 64 #[.int .i64 2, .int .i64 0, .int .i64 1, .slice A2 1 c2] ∧ Below w3.heap.size w3 W4 ∧ W4.heap.size = w3.heap.size + 1 := ⟨_, rfl, Blk.new _ _ _, newB _ _, by simp⟩
  rw [hW4]
  have k1' := k1.below hb4 k1.lt
  obtain ⟨g0, g1, -, -⟩ := k1'.two
  have k2 := k23.below hb4 k23.lt
  have s0 : W4.cell? ⟨w1.heap.size, 0, none⟩ = some (.int .i64 1) := k2.cell 0
  have s1 : W4.cell? ⟨w1.heap.size, 1, none⟩ = some (.int .i64 0) := k2.cell 1
  have s2 : W4.cell? ⟨w1.heap.size, 2, none⟩ = some (.int .i64 2) := k2.cell 2
  have s3 : W4.cell? ⟨w1.heap.size, 3, none⟩ = some (.slice A1 O1.length c1) := k2.cell 3
  have t0 : W4.cell? ⟨w3.heap.size, 0, none⟩ = some (.int .i64 2) := k4.cell 0
  have t1 : W4.cell? ⟨w3.heap.size, 1, none⟩ = some (.int .i64 0) := k4.cell 1
  have t2 : W4.cell? ⟨w3.heap.size, 2, none⟩ = some (.int .i64 1) := k4.cell 2
  have t3 : W4.cell? ⟨w3.heap.size, 3, none⟩ = some (.slice A2 1 c2) := k4.cell 3
  have hrg4 := hrg3.below hb4
  have hT4 := hT3.below hb4
  have hr14 := hr13.below hb4
  have hr24 := hr2.below hb4
  have hb04 := hb03.trans (hb4.mono (by omega))
  clear hW4 k1 k23 hrg3 hT3 hr13 hr2 hb03 hb4 k2
  have hch1 := gCheckO_any (some ⟨G, 0, none⟩) (n := 2) (l := gA) 2 gA_vld (by decide) (by decide) 1 0 (.inl rfl) (by decide) A1 O1 c1 (Hok1.out.rng gA_vld.1) Hok1.out.asc (by omega) W4 hrg4 hr14 hT4
  have Hch1 := Lib.hid hch1
  clear hch1
  go_wp2_with fail
  refine Hch1.out.mono ?_
  rintro e w5 ⟨b, rfl, hpost, hb5⟩
  have hbt := Hok1.out.wins gA_vld.1 hpost
  subst hbt
  have k5 := k1'.below hb5 k1'.lt
  obtain ⟨g0', g1', -, -⟩ := k5.two
  have k4' := k4.below hb5 k4.lt
  have t0' : w5.cell? ⟨w3.heap.size, 0, none⟩ = some (.int .i64 2) := k4'.cell 0
  have t1' : w5.cell? ⟨w3.heap.size, 1, none⟩ = some (.int .i64 0) := k4'.cell 1
  have t2' : w5.cell? ⟨w3.heap.size, 2, none⟩ = some (.int .i64 1) := k4'.cell 2
  have t3' : w5.cell? ⟨w3.heap.size, 3, none⟩ = some (.slice A2 1 c2) := k4'.cell 3
  have hrg5 := hrg4.below hb5
  have hT5 := hT4.below hb5
  have hr25 := hr24.below hb5
  have hb05 := hb04.trans (hb5.mono (by omega))
  have hs5 := hb5.size
  have hch2 := gCheckP_any (some ⟨G, 0, none⟩) (n := 2) (l := gA) 2 gA_vld (by decide) (by decide) 2 0 (.inr rfl) (by decide) A2 [(1, 0)] c2 (Hok2.out.rng) Hok2.out.asc (by decide) w5 hrg5 hr25 hT5
  have Hch2 := Lib.hid hch2
  clear hch2 k1' k4 g0 g1 s0 s1 s2 s3 t0 t1 t2 t3 hrg4 hT4 hr14 hr24 hb04 hb5 Hch1 hpost
  go_wp2_with fail
  refine Hch2.out.mono ?_
  rintro e w6 ⟨b, rfl, hpost, hb6⟩
  have hbt := Hok2.out.winsC gA_vld.1 (srS_sound gA_sr).1 hpost
  subst hbt
  have k6 := k4'.below hb6 k4'.lt
  have t0 : w6.cell? ⟨w3.heap.size, 0, none⟩ = some (.int .i64 2) := k6.cell 0
  have t1 : w6.cell? ⟨w3.heap.size, 1, none⟩ = some (.int .i64 0) := k6.cell 1
  have t2 : w6.cell? ⟨w3.heap.size, 2, none⟩ = some (.int .i64 1) := k6.cell 2
  have t3 : w6.cell? ⟨w3.heap.size, 3, none⟩ = some (.slice A2 1 c2) := k6.cell 3
  have hr26 := hr25.below hb6
  have hb06 := hb05.trans (hb6.mono (by omega))
  have hs6 := hb6.size
  clear k4' k5 g0' g1' t0' t1' t2' t3' hrg5 hT5 hr25 hb05 hb6 Hch2 hpost k6
  go_wp2_with fail
  refine (same25_any 2 0 1 A2 (some ⟨w6.heap.size, 0, none⟩) [(1, 0)] c2 1 _ (hr26.below (newB w6 _)) ?_ (by decide)).mono ?_
  · have hk := Blk.new w6 106 #[.int .i64 1, .int .i64 0]
    intro j hj
    have e : j = 0 := by have : j < 1 := hj; omega
    subst e; exact ⟨_, 0, rfl, hk.cell 0, hk.cell 1⟩
  rintro e w7 ⟨rfl, hb7⟩
  have hbe : Below w.heap.size w w7 := by
    rw [hGe]
    exact hb06.trans ((endB (newB w6 _) hb7).mono (by omega))
  have Hbe := Lib.hid hbe
  clear hbe hb7 t0 t1 t2 t3 hr26 hb06
  go_wp2_with fail
  go_ret
  exact ⟨rfl, Hbe.out⟩
end Go.Proofs.YtncimnfhfomddaaDoor
