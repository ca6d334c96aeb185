import Derived.Test.YtncimnfhfomddaaDoorPl11
import Derived.Test.YtncimnfhfomddaaDoorGnd
import Derived.Test.YtncimnfhfomddaaDoorLb
/- The grounded labelling among the complete ones; graphs without cycles: plain words. No program in sight. -/
namespace Go.Proofs.YtncimnfhfomddaaDoor
open Go.ChangeShapes Go.WideShapes Go.ChangeAt Go.RowKit

theorem gr_at {n : Nat} {l : List (Int × Int)} {i : Nat} (h : i < n) : (lst n (grL n l)).getD i 0 = grL n l i := lst_getD h
theorem gr_labB {n : Nat} {l : List (Int × Int)} (hv : InR n l) : labB n (lst n (grL n l)) = true := by
  rw [labB_iff]
  refine ⟨lst_length _ _, fun v hv' => ?_⟩
  unfold lst at hv'
  obtain ⟨i, _, rfl⟩ := List.mem_map.1 hv'
  rcases (gr_inv hv).rng i with h | h | h <;> omega
theorem gr_comB {n : Nat} {l : List (Int × Int)} (hv : InR n l) : comB n l (lst n (grL n l)) = true := by
  have inv := gr_inv hv
  rw [comB_iff]
  refine ⟨gr_labB hv, fun i hi => ?_⟩
  have hat : ∀ a, att l a i → (lst n (grL n l)).getD a 0 = grL n l a := fun a ha => gr_at (att_lt hv ha).1
  rw [legB_iff hv (labB_at (gr_labB hv) hi), gr_at hi]
  rcases inv.rng i with h | h | h
  · exact .inl ⟨h, fun a ha => by rw [hat a ha]; exact (inv.isIn i h).2 a ha⟩
  · obtain ⟨a, ha, h1⟩ := inv.isOut i h
    exact .inr (.inl ⟨h, a, ha, by rw [hat a ha]; exact h1⟩)
  · refine .inr (.inr ⟨h, ?_, fun a ha e => ?_⟩)
    · rcases Classical.em (∃ a, att l a i ∧ (lst n (grL n l)).getD a 0 ≠ 2) with h1 | h1
      · exact h1
      · have := gr_rest hv i hi
        rw [(frB_iff hv).2 ⟨hi, h, fun a ha => Classical.byContradiction fun e => h1 ⟨a, ha, by rw [hat a ha]; exact e⟩⟩] at this
        cases this
    · rw [hat a ha] at e
      have := inv.outs a i e ha
      omega
theorem gr_less {n : Nat} {l : List (Int × Int)} (hv : InR n l) {y : List Int} (h : comB n l y = true) : lessB (lst n (grL n l)) y = true := by
  have hlen := (labB_iff.1 (comB_iff.1 h).1).1
  have key : ∀ r i, i < n → (stL n l r i = 1 → y.getD i 0 = 1) ∧ (stL n l r i = 2 → y.getD i 0 = 2) := by
    intro r
    induction r with
    | zero => intro i _; simp [stL]
    | succ r ih =>
      have hfree : ∀ a, frB n l (stL n l r) a = true → y.getD a 0 = 1 := fun a ha => by
        obtain ⟨han, _, ho⟩ := (frB_iff hv).1 ha
        exact (com_words hv h han).1.2 fun b hb => (ih b (att_lt hv hb).1).2 (ho b hb)
      intro i hi
      simp only [stL, nxL]
      by_cases hf : frB n l (stL n l r) i = true
      · rw [if_pos hf]
        exact ⟨fun _ => hfree i hf, fun e => by omega⟩
      · rw [if_neg hf]
        by_cases hg : gHitB n l (stL n l r) i = true
        · rw [if_pos hg]
          obtain ⟨_, _, a, ha, hfa⟩ := (gHitB_iff hv).1 hg
          exact ⟨fun e => by omega, fun _ => (com_words hv h hi).2.2 ⟨a, ha, hfree a hfa⟩⟩
        · rw [if_neg hg]; exact ih i hi
  refine lessB_iff.2 ⟨by rw [lst_length, hlen], fun i hi hor => ?_⟩
  rw [lst_length] at hi
  rw [gr_at hi] at hor ⊢
  rcases hor with e | e
  · rw [(key n i hi).1 e, e]
  · rw [(key n i hi).2 e, e]

/-- in a graph without cycles no node stays undecided -/
theorem acy_all {n : Nat} {l : List (Int × Int)} (hv : InR n l) (h : ∀ p ∈ l, p.1 < p.2) : ∀ i, i < n → grL n l i = 1 ∨ grL n l i = 2 := by
  have inv := gr_inv hv
  intro i
  induction i using Nat.strongRecOn with
  | _ i ih =>
    intro hi
    rcases inv.rng i with e | e | e
    · exact .inl e
    · exact .inr e
    · exfalso
      have := gr_rest hv i hi
      rw [(frB_iff hv).2 ⟨hi, e, fun a ha => ?_⟩] at this
      · cases this
      · have hai : a < i := by have := h _ ha; simp at this; omega
        rcases ih a hai (att_lt hv ha).1 with h1 | h1
        · have := inv.outs a i h1 ha; omega
        · exact h1
theorem acy_com {n : Nat} {l : List (Int × Int)} (hv : InR n l) (h : ∀ p ∈ l, p.1 < p.2) {y : List Int} (hy : labB n y = true) : comB n l y = eqB (lst n (grL n l)) y := by
  apply Bool.eq_iff_iff.2
  rw [eqB_iff]
  constructor
  · intro hc
    obtain ⟨_, k⟩ := lessB_iff.1 (gr_less hv hc)
    rw [list_of_getD (labB_iff.1 hy).1]
    refine lst_congr fun i hi => ?_
    have := k i (by rw [lst_length]; exact hi)
    rw [gr_at hi] at this
    exact (this (acy_all hv h i hi)).symm
  · rintro rfl; exact gr_comB hv
theorem acy_in {n : Nat} {l : List (Int × Int)} (hv : InR n l) (h : ∀ p ∈ l, p.1 < p.2) : inB (lst n (grL n l)) 3 = false := by
  cases hb : inB (lst n (grL n l)) 3
  · rfl
  · rw [inB_iff] at hb
    unfold lst at hb
    obtain ⟨i, hi, e⟩ := List.mem_map.1 hb
    rcases acy_all hv h i (List.mem_range.1 hi) with h1 | h1 <;> omega
end Go.Proofs.YtncimnfhfomddaaDoor

/- grounded: proved and Check. Written by gen_gck.py. -/
namespace Go.Proofs.YtncimnfhfomddaaDoor
open Go.ChangeShapes Go.WideShapes Go.ChangeAt Go.RowKit

/-- the ranks prove the label of a node -/
def p1B (r : List Int) (i : Nat) (a : Int) : Bool := decide (r.getD i 0 ≤ r.getD a.toNat 0)
def p2B (x r : List Int) (i : Nat) (a : Int) : Bool := (x.getD a.toNat 0 == 1) && decide (1 ≤ r.getD a.toNat 0) && decide (r.getD a.toNat 0 ≤ r.getD i 0)
def prvB (l : List (Int × Int)) (x r : List Int) (i : Nat) : Bool :=
  if x.getD i 0 = 1 then decide (1 ≤ r.getD i 0) && !((attackersL l i).any (p1B r i)) else if x.getD i 0 = 2 then (attackersL l i).any (p2B x r i) else true
/-- what Check returns for a graph of n nodes -/
def chkF (n : Nat) (l : List (Int × Int)) (x r : List Int) : Int := if labB n x = false ∨ r.length ≠ n then 4 else if comB n l x = false then 7 else if (List.range n).all (prvB l x r) then 0 else 11
def chkE (N : Int) (l : List (Int × Int)) (x r : List Int) : Int := if valE N l ≠ 0 then 1 else chkF N.toNat l x r

theorem boxedG4 (w : World) (t1 t2 t3 t4 : TypeId) (x1 y1 x2 x3 x4 : Value) : ∃ W0, (((w.alloc (.cells #[x1, y1] t1)).alloc (.cells #[x2] t2)).alloc (.cells #[x3] t3)).alloc (.cells #[x4] t4) = W0 ∧ W0.cell? ⟨w.heap.size, 0, none⟩ = some x1 ∧ W0.cell? ⟨w.heap.size, 1, none⟩ = some y1 ∧ W0.cell? ⟨w.heap.size + 1, 0, none⟩ = some x2 ∧ W0.cell? ⟨w.heap.size + 1 + 1, 0, none⟩ = some x3 ∧ W0.cell? ⟨w.heap.size + 1 + 1 + 1, 0, none⟩ = some x4 ∧ Below w.heap.size w W0 := by
  have h2 := Blk.new (w.alloc (.cells #[x1, y1] t1)) t2 #[x2]
  have h3 := Blk.new ((w.alloc (.cells #[x1, y1] t1)).alloc (.cells #[x2] t2)) t3 #[x3]
  have h4 := Blk.new (((w.alloc (.cells #[x1, y1] t1)).alloc (.cells #[x2] t2)).alloc (.cells #[x3] t3)) t4 #[x4]
  have g1 := (((Blk.new w t1 #[x1, y1]).alloc (.cells #[x2] t2)).alloc (.cells #[x3] t3)).alloc (.cells #[x4] t4)
  have g2 := (h2.alloc (.cells #[x3] t3)).alloc (.cells #[x4] t4)
  have g3 := h3.alloc (.cells #[x4] t4)
  simp only [World.size_alloc] at g2 g3 h4
  refine ⟨_, rfl, g1.two.1, g1.two.2.1, ?_, ?_, ?_, (((newB w _).trans ((newB _ _).mono (by simp only [World.size_alloc]; omega))).trans ((newB _ _).mono (by simp only [World.size_alloc]; omega))).trans ((newB _ _).mono (by simp only [World.size_alloc]; omega))⟩
  · rw [g2.cell]; rfl
  · rw [g3.cell]; rfl
  · rw [h4.cell]; rfl

theorem prvB_in {l : List (Int × Int)} {x r : List Int} {i : Nat} (h : x.getD i 0 = 1) : prvB l x r i = (decide (1 ≤ r.getD i 0) && !((attackersL l i).any (p1B r i))) := by unfold prvB; rw [if_pos h]
theorem prvB_out {l : List (Int × Int)} {x r : List Int} {i : Nat} (h : x.getD i 0 = 2) : prvB l x r i = (attackersL l i).any (p2B x r i) := by unfold prvB; rw [if_neg (by omega), if_pos h]
theorem prvB_und {l : List (Int × Int)} {x r : List Int} {i : Nat} (h1 : x.getD i 0 ≠ 1) (h2 : x.getD i 0 ≠ 2) : prvB l x r i = true := by unfold prvB; rw [if_neg h1, if_neg h2]

theorem chk_bad {n : Nat} {l : List (Int × Int)} {x r : List Int} (h : labB n x = false ∨ r.length ≠ n) : chkF n l x r = 4 := by unfold chkF; rw [if_pos h]
theorem chk_inc {n : Nat} {l : List (Int × Int)} {x r : List Int} (h : ¬ (labB n x = false ∨ r.length ≠ n)) (hc : comB n l x = false) : chkF n l x r = 7 := by unfold chkF; rw [if_neg h, if_pos hc]
theorem chk_all {n : Nat} {l : List (Int × Int)} {x r : List Int} (h : ¬ (labB n x = false ∨ r.length ≠ n)) (hc : comB n l x = true) : chkF n l x r = if (List.range n).all (prvB l x r) then 0 else 11 := by unfold chkF; rw [if_neg h, if_neg (by rw [hc]; simp)]
theorem all_fail {n k : Nat} {f : Nat → Bool} (hk : k < n) (h : f k = false) : (List.range n).all f = false := by
  cases hb : (List.range n).all f
  · rfl
  · rw [List.all_eq_true] at hb
    rw [hb k (List.mem_range.2 hk)] at h; cases h
theorem all_step {k : Nat} {f : Nat → Bool} (h0 : (List.range k).all f = true) (h : f k = true) : (List.range (k + 1)).all f = true := by rw [List.range_succ, List.all_append, h0]; simp [h]

end Go.Proofs.YtncimnfhfomddaaDoor

/- Ranks prove the grounded labelling, and no other one: plain words. No program in sight. -/
namespace Go.Proofs.YtncimnfhfomddaaDoor
open Go.ChangeShapes Go.WideShapes Go.ChangeAt Go.RowKit

/-- what holds of the ranks behind each round -/
structure RkI (l : List (Int × Int)) (r : Int) (L R : Nat → Int) : Prop where
  le : ∀ i, L i ≠ 3 → R i ≤ r
  isIn : ∀ i, L i = 1 → 1 ≤ R i ∧ ∀ a, att l a i → L a = 2 ∧ R a < R i
  isOut : ∀ i, L i = 2 → ∃ a, att l a i ∧ L a = 1 ∧ 1 ≤ R a ∧ R a ≤ R i
theorem RkI.next {n : Nat} {l : List (Int × Int)} (hv : InR n l) {r : Int} {L R : Nat → Int} (hr : 0 ≤ r) (h : RkI l r L R) : RkI l (r + 1) (nxL n l L) (nxR n l L (r + 1) R) := by
  have hf : ∀ i, frB n l L i = true → nxL n l L i = 1 ∧ nxR n l L (r + 1) R i = r + 1 := fun i hi => by unfold nxL nxR; rw [if_pos hi, if_pos hi]; exact ⟨rfl, rfl⟩
  have hk : ∀ i, L i ≠ 3 → nxL n l L i = L i ∧ nxR n l L (r + 1) R i = R i := fun i hi => by
    have h1 : ¬ frB n l L i = true := fun e => hi ((frB_iff hv).1 e).2.1
    have h2 : ¬ gHitB n l L i = true := fun e => hi ((gHitB_iff hv).1 e).1
    unfold nxL nxR; rw [if_neg h1, if_neg h1, if_neg h2, if_neg h2]; exact ⟨rfl, rfl⟩
  have hg : ∀ i, frB n l L i = false → gHitB n l L i = true → nxL n l L i = 2 ∧ nxR n l L (r + 1) R i = r + 1 := fun i h1 hi => by
    have h1 : ¬ frB n l L i = true := by rw [h1]; simp
    unfold nxL nxR; rw [if_neg h1, if_neg h1, if_pos hi, if_pos hi]; exact ⟨rfl, rfl⟩
  have hn : ∀ i, frB n l L i = false → gHitB n l L i = false → nxL n l L i = L i ∧ nxR n l L (r + 1) R i = R i := fun i h1 h2 => by
    have h1 : ¬ frB n l L i = true := by rw [h1]; simp
    have h2 : ¬ gHitB n l L i = true := by rw [h2]; simp
    unfold nxL nxR; rw [if_neg h1, if_neg h1, if_neg h2, if_neg h2]; exact ⟨rfl, rfl⟩
  refine ⟨fun i hi => ?_, fun i hi => ?_, fun i hi => ?_⟩
  · cases h1 : frB n l L i
    · cases h2 : gHitB n l L i
      · obtain ⟨a1, a2⟩ := hn i h1 h2
        rw [a1] at hi; rw [a2]
        have := h.le i hi; omega
      · rw [(hg i h1 h2).2]; exact Int.le_refl _
    · rw [(hf i h1).2]; exact Int.le_refl _
  · cases h1 : frB n l L i
    · cases h2 : gHitB n l L i
      · obtain ⟨a1, a2⟩ := hn i h1 h2
        rw [a1] at hi; rw [a2]
        obtain ⟨b1, b2⟩ := h.isIn i hi
        refine ⟨b1, fun a ha => ?_⟩
        obtain ⟨c1, c2⟩ := b2 a ha
        obtain ⟨d1, d2⟩ := hk a (by rw [c1]; omega)
        rw [d1, d2]; exact ⟨c1, c2⟩
      · rw [(hg i h1 h2).1] at hi; omega
    · rw [(hf i h1).2]
      refine ⟨by omega, fun a ha => ?_⟩
      have c1 := ((frB_iff hv).1 h1).2.2 a ha
      obtain ⟨d1, d2⟩ := hk a (by rw [c1]; omega)
      rw [d1, d2]
      have := h.le a (by rw [c1]; omega)
      exact ⟨c1, by omega⟩
  · cases h1 : frB n l L i
    · cases h2 : gHitB n l L i
      · obtain ⟨a1, a2⟩ := hn i h1 h2
        rw [a1] at hi
        obtain ⟨a, b1, b2, b3, b4⟩ := h.isOut i hi
        obtain ⟨d1, d2⟩ := hk a (by rw [b2]; omega)
        exact ⟨a, b1, by rw [d1]; exact b2, by rw [d2]; exact b3, by rw [d2, a2]; exact b4⟩
      · obtain ⟨_, _, a, ha, hfa⟩ := (gHitB_iff hv).1 h2
        obtain ⟨d1, d2⟩ := hf a hfa
        exact ⟨a, ha, d1, by rw [d2]; omega, by rw [d2, (hg i h1 h2).2]; exact Int.le_refl _⟩
    · rw [(hf i h1).1] at hi; omega
theorem stR_inv {n : Nat} {l : List (Int × Int)} (hv : InR n l) : ∀ r : Nat, RkI l r (stL n l r) (stR n l r)
  | 0 => ⟨fun i h => absurd rfl h, fun i h => by simp [stL] at h, fun i h => by simp [stL] at h⟩
  | r + 1 => by
    have := (stR_inv hv r).next hv (by omega)
    simpa [stL, stR] using this
theorem gr_ranks {n : Nat} {l : List (Int × Int)} (hv : InR n l) : RkI l n (grL n l) (grR n l) := stR_inv hv n

theorem any_p1 {n : Nat} {l : List (Int × Int)} (hv : InR n l) {r : List Int} {i : Nat} : (attackersL l i).any (p1B r i) = true ↔ ∃ a, att l a i ∧ r.getD i 0 ≤ r.getD a 0 := by
  unfold p1B
  rw [any_attackers hv (p := fun a => decide (r.getD i 0 ≤ r.getD a 0))]
  simp only [decide_eq_true_iff]
theorem any_p2 {n : Nat} {l : List (Int × Int)} (hv : InR n l) {x r : List Int} {i : Nat} : (attackersL l i).any (p2B x r i) = true ↔ ∃ a, att l a i ∧ x.getD a 0 = 1 ∧ 1 ≤ r.getD a 0 ∧ r.getD a 0 ≤ r.getD i 0 := by
  unfold p2B
  rw [any_attackers hv (p := fun a => x.getD a 0 == 1 && decide (1 ≤ r.getD a 0) && decide (r.getD a 0 ≤ r.getD i 0))]
  simp only [Bool.and_eq_true, decide_eq_true_iff, beq_iff_eq, and_assoc]
theorem prv_in {n : Nat} {l : List (Int × Int)} (hv : InR n l) {x r : List Int} {i : Nat} (h : x.getD i 0 = 1) : prvB l x r i = true ↔ 1 ≤ r.getD i 0 ∧ ∀ a, att l a i → r.getD a 0 < r.getD i 0 := by
  rw [prvB_in h, Bool.and_eq_true, decide_eq_true_iff, Bool.not_eq_true', ← Bool.not_eq_true, any_p1 hv]
  constructor
  · rintro ⟨h1, h2⟩
    exact ⟨h1, fun a ha => by
      rcases Int.lt_or_le (r.getD a 0) (r.getD i 0) with h3 | h3
      · exact h3
      · exact absurd ⟨a, ha, h3⟩ h2⟩
  · rintro ⟨h1, h2⟩
    exact ⟨h1, fun ⟨a, ha, h3⟩ => by have := h2 a ha; omega⟩
theorem prv_out {n : Nat} {l : List (Int × Int)} (hv : InR n l) {x r : List Int} {i : Nat} (h : x.getD i 0 = 2) : prvB l x r i = true ↔ ∃ a, att l a i ∧ x.getD a 0 = 1 ∧ 1 ≤ r.getD a 0 ∧ r.getD a 0 ≤ r.getD i 0 := by rw [prvB_out h, any_p2 hv]

theorem rk_at {n : Nat} {l : List (Int × Int)} {i : Nat} (h : i < n) : (lst n (grR n l)).getD i 0 = grR n l i := lst_getD h
/-- the ranks prove the grounded labelling -/
theorem gr_proved {n : Nat} {l : List (Int × Int)} (hv : InR n l) : chkF n l (lst n (grL n l)) (lst n (grR n l)) = 0 := by
  have hno : ¬ (labB n (lst n (grL n l)) = false ∨ (lst n (grR n l)).length ≠ n) := by rw [gr_labB hv, lst_length]; simp
  rw [chk_all hno (gr_comB hv), if_pos]
  rw [List.all_eq_true]
  intro i hi
  have hi := List.mem_range.1 hi
  have inv := gr_ranks hv
  rcases (gr_inv hv).rng i with e | e | e
  · rw [prv_in hv (by rw [gr_at hi]; exact e), rk_at hi]
    obtain ⟨b1, b2⟩ := inv.isIn i e
    exact ⟨b1, fun a ha => by rw [rk_at (att_lt hv ha).1]; exact (b2 a ha).2⟩
  · rw [prv_out hv (by rw [gr_at hi]; exact e), rk_at hi]
    obtain ⟨a, b1, b2, b3, b4⟩ := inv.isOut i e
    have ha := (att_lt hv b1).1
    exact ⟨a, b1, by rw [gr_at ha]; exact b2, by rw [rk_at ha]; exact b3, by rw [rk_at ha]; exact b4⟩
  · exact prvB_und (by rw [gr_at hi]; omega) (by rw [gr_at hi]; omega)
/-- and no other one -/
theorem proved_gr {n : Nat} {l : List (Int × Int)} (hv : InR n l) {z r : List Int} (h : chkF n l z r = 0) : lst n (grL n l) = z := by
  have hno : ¬ (labB n z = false ∨ r.length ≠ n) := fun e => by rw [chk_bad e] at h; omega
  have hlab : labB n z = true := by
    cases hb : labB n z
    · exact absurd (.inl hb) hno
    · rfl
  have hcom : comB n l z = true := by
    cases hb : comB n l z
    · rw [chk_inc hno hb] at h; omega
    · rfl
  rw [chk_all hno hcom] at h
  have hall : ∀ i, i < n → prvB l z r i = true := by
    cases hb : (List.range n).all (prvB l z r)
    · rw [hb] at h; simp at h
    · rw [List.all_eq_true] at hb
      exact fun i hi => hb i (List.mem_range.2 hi)
  have hlen := (labB_iff.1 hlab).1
  have inv := gr_inv hv
  have key : ∀ (k i : Nat), i < n → z.getD i 0 = 1 → (r.getD i 0).toNat ≤ k → grL n l i = 1 := by
    intro k
    induction k with
    | zero =>
      intro i hi hz hk
      have := ((prv_in hv hz).1 (hall i hi)).1
      omega
    | succ k ih =>
      intro i hi hz hk
      obtain ⟨h1, h2⟩ := (prv_in hv hz).1 (hall i hi)
      have hout : ∀ a, att l a i → grL n l a = 2 := fun a ha => by
        have han := (att_lt hv ha).1
        have za := (com_words hv hcom hi).1.1 hz a ha
        obtain ⟨b, b1, b2, b3, b4⟩ := (prv_out hv za).1 (hall a han)
        have hlt := h2 a ha
        exact inv.outs b a (ih b (att_lt hv b1).1 b2 (by omega)) b1
      rcases inv.rng i with e | e | e
      · exact e
      · obtain ⟨a, ha, e1⟩ := inv.isOut i e
        have := hout a ha; omega
      · have := gr_rest hv i hi
        rw [(frB_iff hv).2 ⟨hi, e, hout⟩] at this; cases this
  have hin : ∀ i, i < n → z.getD i 0 = 1 → grL n l i = 1 := fun i hi hz => key _ i hi hz (Nat.le_refl _)
  obtain ⟨_, kl⟩ := lessB_iff.1 (gr_less hv hcom)
  rw [list_of_getD hlen]
  refine lst_congr fun i hi => ?_
  have k1 := kl i (by rw [lst_length]; exact hi)
  rw [gr_at hi] at k1
  have zr := labB_at hlab hi
  rcases inv.rng i with e | e | e
  · rw [k1 (.inl e)]
  · rw [k1 (.inr e)]
  · have h1 : z.getD i 0 ≠ 1 := fun hz => by have := hin i hi hz; omega
    have h2 : z.getD i 0 ≠ 2 := fun hz => by
      obtain ⟨a, ha, za⟩ := (com_words hv hcom hi).2.1 hz
      have := inv.outs a i (hin a (att_lt hv ha).1 za) ha
      omega
    omega
theorem proved_ne {n : Nat} {l : List (Int × Int)} (hv : InR n l) {z r : List Int} (h : eqB (lst n (grL n l)) z = false) : chkF n l z r ≠ 0 := fun e => by
  rw [(eqB_iff _ _).2 (proved_gr hv e)] at h; cases h
theorem chkE_nat {n : Nat} {l : List (Int × Int)} (hv : Vld n l) (x r : List Int) : chkE n l x r = chkF n l x r := by unfold chkE; rw [if_neg (by rw [hv.valE]; simp), Int.toNat_natCast]
end Go.Proofs.YtncimnfhfomddaaDoor
