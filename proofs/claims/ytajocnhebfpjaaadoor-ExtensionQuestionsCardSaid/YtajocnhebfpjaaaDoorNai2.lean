/- search.Naive. -/
import Derived.Test.YtajocnhebfpjaaaDoorNai
namespace Go.Proofs.YtajocnhebfpjaaaDoor
open Go.ChangeShapes Go.WideShapes Go.ChangeAt Go.RowKit

/-- the conflicts of a node, by the pairs so far -/
def cfS (i : Nat) (z : Nat) (p : Int × Int) : Nat := if p.1 = p.2 then z else if p.2.toNat = i then (if p.1.toNat = i then z ||| 1 <<< p.2.toNat else z) ||| 1 <<< p.1.toNat else if p.1.toNat = i then z ||| 1 <<< p.2.toNat else z
def cfM (l : List (Int × Int)) (i : Nat) : Nat := l.foldl (cfS i) 0
def rsS (z : Nat) (p : Int × Int) : Nat := if p.1 = p.2 then minusN z (1 <<< p.1.toNat) else z
def rsM (n : Nat) (l : List (Int × Int)) : Nat := l.foldl rsS (allN n)
theorem cfM_snoc (l : List (Int × Int)) (p : Int × Int) (i : Nat) : cfM (l ++ [p]) i = cfS i (cfM l i) p := by simp [cfM, List.foldl_append]
theorem rsM_snoc (n : Nat) (l : List (Int × Int)) (p : Int × Int) : rsM n (l ++ [p]) = rsS (rsM n l) p := by simp [rsM, List.foldl_append]
theorem lt_of_has {n m : Nat} (h : ∀ j, has m j → j < n) : m < 2 ^ n := masks_lt.1 ((mem_masks n 0 m).2 fun j hj => by have := h j hj; omega)
theorem snoc_ind {α : Type} {P : List α → Prop} (h0 : P []) (h1 : ∀ l a, P l → P (l ++ [a])) (l : List α) : P l := by
  rw [← List.reverse_reverse l]
  induction l.reverse with
  | nil => exact h0
  | cons a t ih => rw [List.reverse_cons]; exact h1 _ _ ih
section
variable {n : Nat}
theorem cfM_has : ∀ (l : List (Int × Int)), (∀ p ∈ l, 0 ≤ p.1 ∧ p.1 < n ∧ 0 ≤ p.2 ∧ p.2 < n) → ∀ i j, has (cfM l i) j ↔ i ≠ j ∧ confl l i j := fun l => by
  refine snoc_ind (P := fun l => (∀ p ∈ l, 0 ≤ p.1 ∧ p.1 < (n : Int) ∧ 0 ≤ p.2 ∧ p.2 < (n : Int)) → ∀ i j, has (cfM l i) j ↔ i ≠ j ∧ confl l i j) ?_ ?_ l
  · intro _ i j; exact ⟨fun h => absurd h has_zero, fun h => by rcases h.2 with h | h <;> cases h⟩
  · intro l p ih hl i j
    have ih := ih (fun q hq => hl q (List.mem_append_left _ hq)) i j
    have hp := hl p (List.mem_append_right _ (List.mem_singleton.2 rfl))
    obtain ⟨x, y⟩ := p
    simp only at hp
    obtain ⟨a, rfl⟩ := Int.eq_ofNat_of_zero_le hp.1
    obtain ⟨b, rfl⟩ := Int.eq_ofNat_of_zero_le hp.2.2.1
    have hc : confl (l ++ [((a : Int), (b : Int))]) i j ↔ confl l i j ∨ (i = a ∧ j = b) ∨ (j = a ∧ i = b) := by
      unfold confl att
      simp only [List.mem_append, List.mem_singleton, Prod.mk.injEq, Int.ofNat_inj]
      constructor
      · rintro ((h | h) | (h | h))
        · exact .inl (.inl h)
        · exact .inr (.inl h)
        · exact .inl (.inr h)
        · exact .inr (.inr h)
      · rintro ((h | h) | h | h)
        · exact .inl (.inl h)
        · exact .inr (.inl h)
        · exact .inl (.inr h)
        · exact .inr (.inr h)
    rw [cfM_snoc, hc]
    unfold cfS
    simp only [Int.ofNat_inj, Int.toNat_natCast]
    split
    · rename_i hab
      subst hab
      rw [ih]
      constructor
      · rintro ⟨h1, h2⟩; exact ⟨h1, .inl h2⟩
      · rintro ⟨h1, h2 | ⟨h2, h3⟩ | ⟨h2, h3⟩⟩
        · exact ⟨h1, h2⟩
        · omega
        · omega
    · rename_i hab
      split
      · rename_i hb
        rw [if_neg (by omega), has_or, ih, has_one]
        constructor
        · rintro (⟨h1, h2⟩ | h)
          · exact ⟨h1, .inl h2⟩
          · exact ⟨by omega, .inr (.inr ⟨h, hb.symm⟩)⟩
        · rintro ⟨h1, h2 | ⟨h2, h3⟩ | ⟨h2, h3⟩⟩
          · exact .inl ⟨h1, h2⟩
          · omega
          · exact .inr h2
      · rename_i hb
        split
        · rename_i ha
          rw [has_or, ih, has_one]
          constructor
          · rintro (⟨h1, h2⟩ | h)
            · exact ⟨h1, .inl h2⟩
            · exact ⟨by omega, .inr (.inl ⟨ha.symm, h⟩)⟩
          · rintro ⟨h1, h2 | ⟨h2, h3⟩ | ⟨h2, h3⟩⟩
            · exact .inl ⟨h1, h2⟩
            · exact .inr h3
            · omega
        · rename_i ha
          rw [ih]
          constructor
          · rintro ⟨h1, h2⟩; exact ⟨h1, .inl h2⟩
          · rintro ⟨h1, h2 | ⟨h2, h3⟩ | ⟨h2, h3⟩⟩
            · exact ⟨h1, h2⟩
            · omega
            · omega
theorem rsM_has (hn : n ≤ 40) : ∀ (l : List (Int × Int)), (∀ p ∈ l, 0 ≤ p.1 ∧ p.1 < n ∧ 0 ≤ p.2 ∧ p.2 < n) → ∀ j, has (rsM n l) j ↔ j < n ∧ ¬ att l j j := fun l => by
  refine snoc_ind (P := fun l => (∀ p ∈ l, 0 ≤ p.1 ∧ p.1 < (n : Int) ∧ 0 ≤ p.2 ∧ p.2 < (n : Int)) → ∀ j, has (rsM n l) j ↔ j < n ∧ ¬ att l j j) ?_ ?_ l
  · intro _ j; exact (has_allN (n := n)).trans ⟨fun h => ⟨h, fun h => by cases h⟩, fun h => h.1⟩
  · intro l p ih hl j
    have ih := ih (fun q hq => hl q (List.mem_append_left _ hq))
    have hp := hl p (List.mem_append_right _ (List.mem_singleton.2 rfl))
    obtain ⟨x, y⟩ := p
    simp only at hp
    obtain ⟨a, rfl⟩ := Int.eq_ofNat_of_zero_le hp.1
    obtain ⟨b, rfl⟩ := Int.eq_ofNat_of_zero_le hp.2.2.1
    have hc : att (l ++ [((a : Int), (b : Int))]) j j ↔ att l j j ∨ (j = a ∧ j = b) := by
      unfold att
      simp only [List.mem_append, List.mem_singleton, Prod.mk.injEq, Int.ofNat_inj]
    rw [rsM_snoc, hc]
    unfold rsS
    simp only [Int.ofNat_inj, Int.toNat_natCast]
    split
    · rename_i hab
      subst hab
      rw [has_minusN (u64_of hn (lt_of_has fun i hi => ((ih i).1 hi).1)) (by rw [Nat.one_shiftLeft]; exact two_pow_u64 (by omega)), ih, has_one]
      constructor
      · rintro ⟨⟨h1, h2⟩, h3⟩; exact ⟨h1, fun h => h.elim h2 fun h => h3 h.1⟩
      · rintro ⟨h1, h2⟩; exact ⟨⟨h1, fun h => h2 (.inl h)⟩, fun h => h2 (.inr ⟨h, h⟩)⟩
    · rename_i hab
      rw [ih]
      constructor
      · rintro ⟨h1, h2⟩; exact ⟨h1, fun h => h.elim h2 fun h => by omega⟩
      · rintro ⟨h1, h2⟩; exact ⟨h1, fun h => h2 (.inl h)⟩
end
/-- all naive sets, or an error -/
def navR (N : Int) (l : List (Int × Int)) : List (List Int) × Int := if valE N l = 0 then (if 200 < (navL N.toNat l).length then ([], 2) else ((navL N.toNat l).map ndL, 0)) else ([], valE N l)
theorem navR_bad {N : Int} {l : List (Int × Int)} (h : valE N l ≠ 0) : navR N l = ([], valE N l) := by unfold navR; rw [if_neg h]
theorem navR_ok {n : Nat} {l : List (Int × Int)} (h : valE n l = 0) : navR n l = if 200 < (navL n l).length then ([], 2) else ((navL n l).map ndL, 0) := by unfold navR; rw [if_pos h, Int.toNat_natCast]

set_option maxRecDepth 100000 in
set_option maxHeartbeats 8000000 in
theorem naive_any (A : Option Addr) (N : Int) (l : List (Int × Int)) (c : Nat) (w : World) (hr : RP w A l) (hlen : l.length ≤ 100000) (hT : Tab w) :
    Calls Tryd.prog 20 #[.agg #[.int .i64 N, .slice A l.length c]] w (RetLE (navR N l) w) := by
  go_enter Tryd.func20, Tryd.ntmps20
  go_wp2_with fail
  obtain ⟨W0, hW, c0, c1, hb0, hlt0⟩ := boxed w 24 (.int .i64 N) (.slice A l.length c)
  rw [hW]
  clear hW
  refine (gValidate_any A N l c W0 (hr.below hb0) hlen).mono ?_
  rintro e w1 ⟨rfl, hb1⟩
  have hb01 := endB hb0 hb1
  by_cases hv : valE N l = 0
  case neg =>
    have hvb : (valE N l != 0) = true := by rw [bne_iff_ne]; exact hv
    have H := Lib.hid (navR_bad hv)
    clear hv
    go_wp2_with fail
    go_ret2
    rw [H.out]
    exact ⟨none, 0, rfl, RSo.nil _ _, fun _ => ⟨rfl, rfl⟩, hb01⟩
  case pos =>
  obtain ⟨n, rfl, hvl⟩ := vld_of_valE hv hlen
  have hvb : (valE n l != 0) = false := by rw [hv]; rfl
  have Hr := Lib.hid (navR_ok hv)
  clear hv
  have hn := hvl.1.1
  have d0 := (hb1.cell (lt_of_cell c0)).trans c0
  have d1 := (hb1.cell (lt_of_cell c1)).trans c1
  have hr1 := hr.below hb01
  have hg1 : w.heap.size < w1.heap.size := Nat.lt_of_lt_of_le hlt0 hb1.size
  have hmk := run_make_row' (P := Tryd.prog) 69 72 (.int .u64 0) 8 Tryd.underlying69 info_u64 rfl .i64 .i64 n (by omega) (by omega)
  have hall := allN_u64 n (by omega)
  rw [Int.one_mul] at hall
  have hn64 : (n : Int) < 64 := by omega
  clear c0 c1
  go_upto_region 6 with fail
  obtain ⟨W2, hW2, hrow0, hk0, hb2, hs2⟩ : ∃ W2, (w1.alloc (.cells (madeCells #[.int .u64 0] n) 72)).alloc (.cells #[.slice (some ⟨w1.heap.size, 0, none⟩) n n, .slice none 0 0, .bool false] 71) = W2 ∧ W2.rowIs w1.heap.size 72 n (fun _ => .int .u64 0) ∧ Blk W2 (w1.heap.size + 1) 71 #[.slice (some ⟨w1.heap.size, 0, none⟩) n n, .slice none 0 0, .bool false] ∧ Below w1.heap.size w1 W2 ∧ W2.heap.size = w1.heap.size + 2 := by
    refine ⟨_, rfl, rowIs_new (World.rowIs_made w1 (.int .u64 0) n _) (newB _ _), ?_, ((Below.refl _ _).alloc (Nat.le_refl _) _).alloc (by simp) _, by simp⟩
    have := Blk.new (w1.alloc (.cells (madeCells #[.int .u64 0] n) 72)) 71 #[.slice (some ⟨w1.heap.size, 0, none⟩) n n, .slice none 0 0, .bool false]
    simpa using this
  rw [hW2]
  clear hW2 hmk hall
  have e1 := (hb2.cell (lt_of_cell d1)).trans d1
  have hb02 := endB hb01 hb2
  have hb01s := hb01.size
  generalize w1.heap.size = g at *
  go_wp2_with fail
  clear d0 d1 hr1 hb0 hb1 hb01 hlt0
  go_loopw [6, 26] (fun s6 j wr => ∃ k : Nat, k ≤ l.length ∧ j = .int .i64 k ∧ s6 = .int .u64 (rsM n (l.take k) : Nat) ∧ wr.rowIs g 72 n (fun i => .int .u64 (cfM (l.take k) i : Nat)) ∧ Blk wr (g + 1) 71 #[.slice (some ⟨g, 0, none⟩) n n, .slice none 0 0, .bool false] ∧ Below g W2 wr) (fun _ j _ => l.length - (intOf j).toNat)
  case atStart => exact ⟨0, Nat.zero_le _, rfl, by simp [rsM], hrow0.congr (fun i _ => by simp [cfM]), hk0, Below.refl _ _⟩
  case round =>
    clear hrow0 hk0
    obtain ⟨k, hk, rfl, rfl, hrow, hkc, hbl⟩ := hrel
    have hbw : Below w.heap.size w wr := hb02.trans (hbl.mono (by omega))
    have hgl : g + 1 < wr.heap.size := Nat.lt_of_lt_of_le (by omega) hbl.size
    by_cases hlt : k < l.length
    case neg =>
      rw [List.take_of_length_le (by omega)] at hrow ⊢
      have hcfok : CfOk n l (cfM l) := ⟨fun i => lt_of_has fun j hj => by
        have := ((cfM_has l hvl.1.2.2 i j).1 hj).2
        rcases this with h | h
        · exact (att_lt hvl.1 h).2
        · exact (att_lt hvl.1 h).1, fun i _ j => cfM_has l hvl.1.2.2 i j⟩
      have hrh := rsM_has hn l hvl.1.2.2
      have hchs : ChS w wr (g + 1) g n (cfM l) (.slice none 0 0) (decide (([] : List (List Int)).length = 201)) := ⟨hkc, hrow, by omega, hbw, by omega, by omega, by omega⟩
      have hch : Calls Tryd.prog 64 #[.pointer (some ⟨g + 1, 0, none⟩), .int .u64 0, .int .u64 (rsM n l : Nat), .int .u64 0] wr _ := choose_any w (g + 1) g n wr.heap.size l (cfM l) hn hcfok hT (by omega) (by omega) (rsM n l) 0 0 (.slice none 0 0) [] [] wr (Cho.start hrh) hchs (Nat.le_refl _) (by simp) ⟨OwnS.nil _ _, OwnL.nil _ _⟩
      rw [nav_all hrh] at hch
      have Hch := Lib.hid hch
      have hkl := hkc.lt
      clear hch hchs hcfok hrh hrow hkc
      go_wp2_with fail
      refine Hch.out.mono ?_
      rintro e w5 ⟨rfl, v', xs', hk5, hfo5, hfr, hled⟩
      have hbw5 : Below w.heap.size w w5 := ⟨hfr.os.trans hbw.os, hfr.tape.trans hbw.tape, hfr.output.trans hbw.output, Nat.le_trans hbw.size hfr.size, fun q hq => (hfr.block q (Nat.lt_of_lt_of_le hq hbw.size) (by omega) (by simp [Value.ownBlock])).trans (hbw.block q hq)⟩
      obtain ⟨k0, k1, k2, _, _⟩ := hk5.three
      have Hbw := Lib.hid hbw5
      clear hfr hled hbw5 hk5
      by_cases hlim : 200 < (navL n l).length
      · have hd : decide ((capL 201 [] ((navL n l).map ndL)).length = 201) = true := by unfold capL; rw [decide_eq_true_iff, List.nil_append, List.length_take, List.length_map]; omega
        rw [hd] at k2
        have Hc := Lib.hid (show navR n l = ([], 2) by rw [Hr.out, if_pos hlim])
        clear hlim hd k1
        go_wp2_with fail
        go_ret2
        rw [Hc.out]
        exact ⟨none, 0, rfl, RSo.nil _ _, fun _ => ⟨rfl, rfl⟩, Hbw.out⟩
      · have hcap : capL 201 [] ((navL n l).map ndL) = (navL n l).map ndL := by unfold capL; rw [List.nil_append, List.take_of_length_le (by rw [List.length_map]; omega)]
        have hd : decide (((navL n l).map ndL).length = 201) = false := by rw [decide_eq_false_iff_not, List.length_map]; omega
        rw [hcap, hd] at k2
        rw [hcap] at hfo5
        have Hc := Lib.hid (show navR n l = ((navL n l).map ndL, 0) by rw [Hr.out, if_neg hlim])
        obtain ⟨A', c', rfl, hrs, hnil⟩ := OwnS.forms2 hfo5.s hfo5.l
        obtain ⟨LL, hLL⟩ : ∃ LL, (navL n l).map ndL = LL := ⟨_, rfl⟩
        rw [hLL] at hrs hnil k1 Hc
        have Hrs := Lib.hid hrs; have Hnil := Lib.hid hnil
        clear hlim hd hcap hrs hnil hfo5 hLL
        go_wp2_with fail
        go_ret2
        rw [Hc.out]
        exact ⟨A', c', rfl, Hrs.out, Hnil.out, Hbw.out⟩
    case pos =>
    obtain ⟨b0, o0, rfl, hca, hcb⟩ := (hr.below hbw).at_ hlt
    obtain ⟨v1, v2, v3, v4⟩ := hvl.1.2.2 l[k] (List.getElem_mem hlt)
    obtain ⟨W4, hW4, f0, f1, hb4, hlt4⟩ := boxed wr 39 (.int .i64 l[k].1) (.int .i64 l[k].2)
    obtain ⟨a, ha⟩ := Int.eq_ofNat_of_zero_le v1
    obtain ⟨b, hb⟩ := Int.eq_ofNat_of_zero_le v3
    have hpk : l[k] = ((a : Int), (b : Int)) := Prod.ext ha hb
    rw [ha] at v2 f0 hca hW4; rw [hb] at v4 f1 hcb hW4
    have han : a < n := by omega
    have hbn : b < n := by omega
    have ha64 : (a : Int) < 64 := by omega
    have hb64 : (b : Int) < 64 := by omega
    have hnx : ∀ i, cfM (l.take (k + 1)) i = cfS i (cfM (l.take k) i) ((a : Int), (b : Int)) := fun i => by rw [List.take_succ_eq_append_getElem hlt, cfM_snoc, hpk]
    have hrx : rsM n (l.take (k + 1)) = rsS (rsM n (l.take k)) ((a : Int), (b : Int)) := by rw [List.take_succ_eq_append_getElem hlt, rsM_snoc, hpk]
    have Hnx := Lib.hid hnx; have Hrx := Lib.hid hrx
    have hrow4 := rowIs_new hrow hb4
    have hkc4 := hkc.below hb4 hkc.lt
    have hbl4 : Below g W2 W4 := hbl.trans (hb4.mono (by omega))
    have hrng : ∀ p ∈ l.take k, 0 ≤ p.1 ∧ p.1 < n ∧ 0 ≤ p.2 ∧ p.2 < n := fun p hp => hvl.1.2.2 p (List.mem_of_mem_take hp)
    have hrs64 : rsM n (l.take k) < 18446744073709551616 := u64_of hn (lt_of_has fun j hj => ((rsM_has hn _ hrng j).1 hj).1)
    have hcf64 : ∀ i, cfM (l.take k) i < 18446744073709551616 := fun i => u64_of hn (lt_of_has fun j hj => by
      have := ((cfM_has _ hrng i j).1 hj).2
      rcases this with h | h
      · have := hrng _ h; simp only at this; omega
      · have := hrng _ h; simp only at this; omega)
    have q1 := u64_one_shl a (by omega)
    have q2 := u64_one_shl b (by omega)
    rw [Int.one_mul] at q1 q2
    have m1 : 1 <<< a < 18446744073709551616 := by rw [Nat.one_shiftLeft]; exact two_pow_u64 (by omega)
    have m2 : 1 <<< b < 18446744073709551616 := by rw [Nat.one_shiftLeft]; exact two_pow_u64 (by omega)
    obtain ⟨ma, hma⟩ : ∃ ma, 1 <<< a = ma := ⟨_, rfl⟩
    obtain ⟨mb, hmb⟩ : ∃ mb, 1 <<< b = mb := ⟨_, rfl⟩
    have hS : ∀ i z, cfS i z ((a : Int), (b : Int)) = if a = b then z else if b = i then (if a = i then z ||| mb else z) ||| ma else if a = i then z ||| mb else z := fun i z => by
      unfold cfS
      simp only [Int.ofNat_inj, Int.toNat_natCast, hma, hmb]
    have hR : ∀ z, rsS z ((a : Int), (b : Int)) = if a = b then minusN z ma else z := fun z => by
      unfold rsS
      simp only [Int.ofNat_inj, Int.toNat_natCast, hma]
    rw [hma] at q1 m1; rw [hmb] at q2 m2
    have HS := Lib.hid hS; have HR := Lib.hid hR
    have Hcf64 := Lib.hid hcf64; have Hrow4 := Lib.hid hrow4; have Hkc4 := Lib.hid hkc4
    clear hma hmb hS hR
    have hlt4' : wr.heap.size < W4.heap.size := hlt4
    clear hnx hrx hpk ha hb hrng hcf64 hrow4 hkc4 hrow hkc
    by_cases hab : a = b
    · have hx3 := u64_minus (rsM n (l.take k)) ma hrs64 m1
      have hE1 := Lib.hid (show rsM n (l.take (k + 1)) = minusN (rsM n (l.take k)) ma by rw [Hrx.out, HR.out, if_pos hab])
      have hE2 := Lib.hid (show ∀ i, cfM (l.take (k + 1)) i = cfM (l.take k) i from fun i => by rw [Hnx.out, HS.out, if_pos hab])
      have hd : ((a : Int) == (b : Int)) = true := by rw [hab]; simp
      clear hab
      go_wp2_with fail
      go_roundw
      case rel => exact ⟨k + 1, by omega, by go_num, by rw [hE1.out], Hrow4.out.congr (fun i _ => by rw [hE2.out]), Hkc4.out, hbl4⟩
      case measure => simp [intOf]; omega
    · have hd : ((a : Int) == (b : Int)) = false := by rw [beq_eq_false_iff_ne]; omega
      have hE1 := Lib.hid (show rsM n (l.take (k + 1)) = rsM n (l.take k) by rw [Hrx.out, HR.out, if_neg hab])
      have hE2 := Lib.hid (show ∀ i, cfM (l.take (k + 1)) i = if b = i then (if a = i then cfM (l.take k) i ||| mb else cfM (l.take k) i) ||| ma else if a = i then cfM (l.take k) i ||| mb else cfM (l.take k) i from fun i => by rw [Hnx.out, HS.out, if_neg hab])
      have hx1 := u64_or_nat (cfM (l.take k) a) mb (Hcf64.out a) m2
      have hx2 := u64_or_nat (cfM (l.take k) b) ma (Hcf64.out b) m1
      have ha0 : (0 : Int) ≤ (a : Int) := by omega
      have hb0' : (0 : Int) ≤ (b : Int) := by omega
      have Hab := Lib.hid hab
      clear hab hb4 hlt4
      go_wp2_with fail
      clear hW4
      refine wp_region_textZ [13] (fun w' => Below W4.heap.size W4 w') (fun _ => True) (by kernel_rfl) (by kernel_rfl) (by kernel_rfl) (by kernel_rfl) (Below.refl _ _).drew trivial ?_
      repeat (first
        | (refine TxtZL.skip (by rfl) ?_; simp only [Act.put, List.setIfInBounds_toArray, List.set_cons_zero, List.set_cons_succ])
        | (refine TxtZL.take (by rfl) (by rfl) ?_; apply Exists.intro; refine ⟨fun w1 hS1 => ?_, ?_⟩; (focus ((have g0 := (hS1.cell (lt_of_cell f0)).trans f0); (have g1 := (hS1.cell (lt_of_cell f1)).trans f1); (obtain ⟨g2, _, _, _, _⟩ := (Hkc4.out.below hS1 Hkc4.out.lt).three); (have g3 := World.rowIs.cell (rowIs_new Hrow4.out hS1) han); go_simp; with_reducible rfl)); simp only [Act.put, List.setIfInBounds_toArray, List.set_cons_zero, List.set_cons_succ])
        | (refine TxtZL.takeE' (by rfl) (by rfl) ?_; apply Exists.intro; refine ⟨fun w1 hS1 => ?_, ?_⟩; (focus ((have g0 := (hS1.cell (lt_of_cell f0)).trans f0); (have g1 := (hS1.cell (lt_of_cell f1)).trans f1); (obtain ⟨g2, _, _, _, _⟩ := (Hkc4.out.below hS1 Hkc4.out.lt).three); (have g3 := World.rowIs.cell (rowIs_new Hrow4.out hS1) han); go_simp; with_reducible rfl)); simp only [Act.put, List.setIfInBounds_toArray, List.set_cons_zero, List.set_cons_succ]))
      refine TxtZL.last (fun w' => W4.grownBy w' (some g) ∧ w'.rowIs g 72 n (fun i => .int .u64 ((if a = i then cfM (l.take k) i ||| mb else cfM (l.take k) i : Nat) : Int))) (by rfl) (by rfl) (fun w1 hS1 _ => ?_) ?_
      · have g3 := World.rowIs.cell (rowIs_new Hrow4.out hS1) han
        have g4 := World.rowIs.frozen (rowIs_new Hrow4.out hS1) a
        refine Eff.skip (w' := w1.setCell ⟨g, a, none⟩ (.int .u64 ((cfM (l.take k) a ||| mb : Nat) : Int))) (by go_simp) ⟨grownBy_trans (grownBy_of_below hS1 _) (grownBy_setCell _ _ _ _), (World.rowIs.set (rowIs_new Hrow4.out hS1) a _).congr fun i _ => ?_⟩
        by_cases e : i = a
        · subst e; simp
        · have e' : ¬ a = i := fun h => e h.symm
          simp [e, e']
      rintro v0 w5 ⟨hg5, hrow5⟩
      have hne1 : ∀ x, (⟨wr.heap.size, x, none⟩ : Addr).block ≠ g := fun x => by show wr.heap.size ≠ g; omega
      have f05 := hg5.cell f0 (by simp; omega)
      have f15 := hg5.cell f1 (by simp; omega)
      have hkc5 := Hkc4.out.grown hg5 (by simp)
      have Hrow5 := Lib.hid hrow5; have Hkc5 := Lib.hid hkc5; have Hg5 := Lib.hid hg5
      clear hrow5 hkc5 hg5 f0 f1 hne1
      go_wp2_with fail
      refine wp_region_textZ [13] (fun w' => Below w5.heap.size w5 w') (fun _ => True) (by kernel_rfl) (by kernel_rfl) (by kernel_rfl) (by kernel_rfl) (Below.refl _ _).drew trivial ?_
      have hcb5 : w5.cell? ⟨g, b, none⟩ = some (.int .u64 (cfM (l.take k) b : Nat)) := by
        have := World.rowIs.cell Hrow5.out hbn
        rw [if_neg Hab.out] at this; exact this
      repeat (first
        | (refine TxtZL.skip (by rfl) ?_; simp only [Act.put, List.setIfInBounds_toArray, List.set_cons_zero, List.set_cons_succ])
        | (refine TxtZL.take (by rfl) (by rfl) ?_; apply Exists.intro; refine ⟨fun w1 hS1 => ?_, ?_⟩; (focus ((have g0 := (hS1.cell (lt_of_cell f05)).trans f05); (have g1 := (hS1.cell (lt_of_cell f15)).trans f15); (obtain ⟨g2, _, _, _, _⟩ := (Hkc5.out.below hS1 Hkc5.out.lt).three); (have g3 := (hS1.cell (lt_of_cell hcb5)).trans hcb5); go_simp; with_reducible rfl)); simp only [Act.put, List.setIfInBounds_toArray, List.set_cons_zero, List.set_cons_succ])
        | (refine TxtZL.takeE' (by rfl) (by rfl) ?_; apply Exists.intro; refine ⟨fun w1 hS1 => ?_, ?_⟩; (focus ((have g0 := (hS1.cell (lt_of_cell f05)).trans f05); (have g1 := (hS1.cell (lt_of_cell f15)).trans f15); (obtain ⟨g2, _, _, _, _⟩ := (Hkc5.out.below hS1 Hkc5.out.lt).three); (have g3 := (hS1.cell (lt_of_cell hcb5)).trans hcb5); go_simp; with_reducible rfl)); simp only [Act.put, List.setIfInBounds_toArray, List.set_cons_zero, List.set_cons_succ]))
      refine TxtZL.last (fun w' => w5.grownBy w' (some g) ∧ w'.rowIs g 72 n (fun i => .int .u64 (cfM (l.take (k + 1)) i : Nat))) (by rfl) (by rfl) (fun w1 hS1 _ => ?_) ?_
      · have g3 := (hS1.cell (lt_of_cell hcb5)).trans hcb5
        have g4 := World.rowIs.frozen (rowIs_new Hrow5.out hS1) b
        refine Eff.skip (w' := w1.setCell ⟨g, b, none⟩ (.int .u64 ((cfM (l.take k) b ||| ma : Nat) : Int))) (by go_simp) ⟨grownBy_trans (grownBy_of_below hS1 _) (grownBy_setCell _ _ _ _), (World.rowIs.set (rowIs_new Hrow5.out hS1) b _).congr fun i _ => ?_⟩
        rw [hE2.out]
        by_cases e : i = b
        · subst e; rw [if_pos rfl, if_neg Hab.out]; simp
        · have e' : ¬ b = i := fun h => e h.symm
          simp [e, e']
      rintro v0' w6 ⟨hg6, hrow6⟩
      have hkc6 := Hkc5.out.grown hg6 (by simp)
      have hbl6 : Below g W2 w6 := hbl4.trans ((below_of_grownBy Hg5.out (Nat.le_refl _) (by omega)).trans (below_of_grownBy hg6 (Nat.le_refl _) (by have := Hg5.out.size; omega)))
      have Hrow6 := Lib.hid hrow6; have Hkc6 := Lib.hid hkc6; have Hbl6 := Lib.hid hbl6
      clear hrow6 hkc6 hbl6 hg6
      go_wp2_with fail
      go_roundw
      case rel => exact ⟨k + 1, by omega, by go_num, by rw [hE1.out], Hrow6.out, Hkc6.out, Hbl6.out⟩
      case measure => simp [intOf]; omega
end Go.Proofs.YtajocnhebfpjaaaDoor
