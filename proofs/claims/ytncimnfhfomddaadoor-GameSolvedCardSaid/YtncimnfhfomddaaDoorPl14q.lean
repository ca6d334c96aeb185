/- Layer 14 in plain words: the order of the lists; what the labellings have in common; the naive sets by trial. No program in sight. -/
import Derived.Test.YtncimnfhfomddaaDoorPl14p
import Derived.Test.YtncimnfhfomddaaDoorGk
namespace Go.Proofs.YtncimnfhfomddaaDoor
open Go.ChangeShapes Go.WideShapes Go.ChangeAt Go.RowKit

/-- labellings in their order are so for the program's comparison -/
theorem cmp_of_getD : ∀ (i : Nat) (x y : List Int), x.length = y.length → (∀ j, j < i → x.getD j 0 = y.getD j 0) → x.getD i 0 < y.getD i 0 → cmpLs x y = -1
  | _, [], [], _, _, h => by simp at h
  | _, [], _ :: _, h, _, _ => by simp at h
  | _, _ :: _, [], h, _, _ => by simp at h
  | 0, a :: x, b :: y, _, _, h => by
    simp at h
    rw [cmpLs, if_pos h]
  | i + 1, a :: x, b :: y, hl, h1, h2 => by
    have h0 := h1 0 (by omega)
    simp at h0
    subst h0
    rw [cmpLs, if_neg (by omega), if_neg (by omega)]
    exact cmp_of_getD i x y (by simpa using hl) (fun j hj => by have := h1 (j + 1) (by omega); simpa using this) (by simpa using h2)
theorem comp_cmp {n : Nat} {l : List (Int × Int)} {k : Nat} (h : k + 1 < (compL n l).length) : cmpLs (compL n l)[k] (compL n l)[k + 1] = -1 := by
  obtain ⟨i, h1, h2⟩ := (List.pairwise_iff_getElem.1 (comp_sorted n l)) k (k + 1) (by omega) h (by omega)
  exact cmp_of_getD i _ _ ((comp_len (List.getElem_mem _)).trans (comp_len (List.getElem_mem _)).symm) h1 h2
theorem cmp_pre : ∀ (p x y : List Int), cmpLs (p ++ x) (p ++ y) = cmpLs x y
  | [], _, _ => rfl
  | a :: p, x, y => by rw [List.cons_append, List.cons_append, cmpLs, if_neg (by omega), if_neg (by omega)]; exact cmp_pre p x y
theorem nodes_split {n i : Nat} (hi : i ≤ n) (p : Nat → Bool) : nodesB n p = nodesB i p ++ nodesB n fun j => decide (i ≤ j) && p j := by
  unfold nodesB
  rw [← List.map_append]
  congr 1
  have e : List.range n = List.range i ++ (List.range (n - i)).map (i + ·) := by rw [← List.range_add, Nat.add_sub_cancel' hi]
  rw [e, List.filter_append, List.filter_append]
  have h1 : (List.range i).filter (fun j => decide (i ≤ j) && p j) = [] := by
    rw [List.filter_eq_nil_iff]
    intro j hj
    have := List.mem_range.1 hj
    rw [decide_eq_false (by omega)]; simp
  rw [h1, List.nil_append]
  congr 1
  refine List.filter_congr fun j hj => ?_
  rw [List.mem_map] at hj
  obtain ⟨k, _, rfl⟩ := hj
  rw [decide_eq_true (by omega), Bool.true_and]
theorem nav_lex {n : Nat} {l : List (Int × Int)} {a b : Nat} (ha : Nav n l a) (hb : Nav n l b) (h : lexM a b) : cmpLs (nodesB n a.testBit) (nodesB n b.testBit) = -1 := by
  obtain ⟨i, h1, h2, h3⟩ := h
  have hi := ha.lt i h2
  have hex : ∃ j, has b j ∧ ¬ has a j := Classical.byContradiction fun hn => by
    have := nav_anti hb ha fun j hj => Classical.byContradiction fun e => hn ⟨j, hj, e⟩
    subst this; exact h3 h2
  obtain ⟨j, hj1, hj2⟩ := hex
  have hij : i < j := by
    rcases Nat.lt_trichotomy i j with e | e | e
    · exact e
    · subst e; exact absurd h2 hj2
    · exact absurd ((h1 j e).2 hj1) hj2
  have hjn := hb.lt j hj1
  rw [nodes_split (Nat.le_of_lt hi) a.testBit, nodes_split (Nat.le_of_lt hi) b.testBit]
  have e : nodesB i b.testBit = nodesB i a.testBit := nodesB_congr fun k hk => by
    rw [Bool.eq_iff_iff]; exact (h1 k hk).symm
  rw [e, cmp_pre]
  have hda : nodesB n (fun k => decide (i ≤ k) && a.testBit k) = nodesB (i + 1) (fun k => decide (i ≤ k) && a.testBit k) ++ nodesB n fun k => decide (i + 1 ≤ k) && (decide (i ≤ k) && a.testBit k) := nodes_split (by omega) _
  have hd0 : nodesB (i + 1) (fun k => decide (i ≤ k) && a.testBit k) = [(i : Int)] := by
    rw [nodesB_succ]
    have : nodesB i (fun k => decide (i ≤ k) && a.testBit k) = [] := by
      rw [List.eq_nil_iff_forall_not_mem]
      intro x hx
      obtain ⟨k, hk, hp, _⟩ := mem_nodesB.1 hx
      rw [decide_eq_false (by omega)] at hp; cases hp
    rw [this, show a.testBit i = true from h2]; simp
  rw [hda, hd0]
  have hne : nodesB n (fun k => decide (i ≤ k) && b.testBit k) ≠ [] := fun e => by
    have : (j : Int) ∈ nodesB n (fun k => decide (i ≤ k) && b.testBit k) := mem_nodesB.2 ⟨j, hjn, by rw [decide_eq_true (by omega), show b.testBit j = true from hj1]; rfl, rfl⟩
    rw [e] at this; cases this
  cases hy : nodesB n (fun k => decide (i ≤ k) && b.testBit k) with
  | nil => exact absurd hy hne
  | cons x y =>
    have hx : x ∈ nodesB n (fun k => decide (i ≤ k) && b.testBit k) := by rw [hy]; exact List.mem_cons_self ..
    obtain ⟨k, _, hp, rfl⟩ := mem_nodesB.1 hx
    rw [Bool.and_eq_true, decide_eq_true_iff] at hp
    have : i ≠ k := fun e => by subst e; exact h3 hp.2
    rw [List.singleton_append, cmpLs, if_pos (by omega)]
theorem nav_cmp {n : Nat} {l : List (Int × Int)} {k : Nat} (h : k + 1 < (navL n l).length) : cmpLs (nodesB n (navL n l)[k].testBit) (nodesB n (navL n l)[k + 1].testBit) = -1 :=
  nav_lex (mem_navL.1 (List.getElem_mem _)) (mem_navL.1 (List.getElem_mem _)) ((List.pairwise_iff_getElem.1 (nav_all_sorted n l)) k (k + 1) (by omega) h (by omega))

/-- what some labellings have in common -/
def meetsL (a : List Int) (L : List (List Int)) : List Int := L.foldl meetL a
theorem meets_snoc (a : List Int) (L : List (List Int)) (y : List Int) : meetsL a (L ++ [y]) = meetL (meetsL a L) y := by unfold meetsL; rw [List.foldl_append]; rfl
theorem meet_lab {n : Nat} {a b : List Int} (ha : labB n a = true) (hb : labB n b = true) : labB n (meetL a b) = true := by
  obtain ⟨la, _⟩ := labB_iff.1 ha
  obtain ⟨lb, _⟩ := labB_iff.1 hb
  refine labB_iff.2 ⟨meetL_len la lb, fun v hv => ?_⟩
  obtain ⟨k, hk, rfl⟩ := List.getElem_of_mem hv
  have hkn : k < n := by rw [meetL_len la lb] at hk; exact hk
  have h1 := meetL_at (a := a) (b := b) (i := k) (by omega) (by omega)
  rw [List.getD_eq_getElem?_getD, List.getElem?_eq_getElem hk, Option.getD_some] at h1
  rw [h1]
  have := labB_at ha hkn
  unfold meetF; split <;> omega
theorem meets_lab {n : Nat} : ∀ (L : List (List Int)) (a : List Int), labB n a = true → (∀ y ∈ L, labB n y = true) → labB n (meetsL a L) = true
  | [], _, h, _ => h
  | y :: L, a, h, hL => meets_lab L (meetL a y) (meet_lab h (hL y (List.mem_cons_self ..))) fun z hz => hL z (List.mem_cons_of_mem _ hz)
theorem meets_great {z : List Int} : ∀ (L : List (List Int)) (a : List Int), lessB z a = true → (∀ y ∈ L, lessB z y = true) → lessB z (meetsL a L) = true
  | [], _, h, _ => h
  | y :: L, a, h, hL => meets_great L (meetL a y) (meet_great h (hL y (List.mem_cons_self ..))) fun z hz => hL z (List.mem_cons_of_mem _ hz)
theorem meets_le {n : Nat} : ∀ (L : List (List Int)) (a : List Int), labB n a = true → (∀ y ∈ L, labB n y = true) → lessB (meetsL a L) a = true ∧ ∀ y ∈ L, lessB (meetsL a L) y = true
  | [], a, _, _ => ⟨lessB_refl a, fun _ h => by cases h⟩
  | y :: L, a, h, hL => by
    have hy := hL y (List.mem_cons_self ..)
    obtain ⟨la, _⟩ := labB_iff.1 h
    obtain ⟨ly, _⟩ := labB_iff.1 hy
    obtain ⟨h1, h2⟩ := meets_le L (meetL a y) (meet_lab h hy) fun z hz => hL z (List.mem_cons_of_mem _ hz)
    refine ⟨lessB_trans h1 (meet_left la ly), fun z hz => ?_⟩
    rcases List.mem_cons.1 hz with e | hz
    · subst e; exact lessB_trans h1 (meet_right la ly)
    · exact h2 z hz
theorem gr_mem {n : Nat} {l : List (Int × Int)} (hv : InR n l) : lst n (grL n l) ∈ compL n l := mem_comp.2 (gr_comB hv)
theorem meets_gr {n : Nat} {l : List (Int × Int)} (hv : InR n l) {a : List Int} (ha : a ∈ compL n l) : meetsL a (compL n l) = lst n (grL n l) := by
  have hlab : ∀ y ∈ compL n l, labB n y = true := fun y hy => (comB_iff.1 (mem_comp.1 hy)).1
  have h1 := (meets_le (compL n l) a (hlab a ha) hlab).2 _ (gr_mem hv)
  have h2 := meets_great (z := lst n (grL n l)) (compL n l) a (gr_less hv (mem_comp.1 ha)) fun y hy => gr_less hv (mem_comp.1 hy)
  have h3 := less_both (meets_lab (compL n l) a (hlab a ha) hlab) (hlab _ (gr_mem hv))
  rw [h1, h2] at h3
  exact (eqB_iff _ _).1 h3.symm
theorem comp_some {n : Nat} {l : List (Int × Int)} (hv : InR n l) : 0 < (compL n l).length := List.length_pos_iff.2 fun e => by
  have := gr_mem hv
  rw [e] at this; cases this
/-- every free set is contained in a naive one -/
theorem nav_over {n : Nat} {l : List (Int × Int)} : ∀ (c m : Nat), 2 ^ n - m ≤ c → m < 2 ^ n → (∀ i j, has m i → has m j → ¬ att l i j) → ∃ x, Nav n l x ∧ sub m x
  | 0, m, h, hm, _ => by omega
  | c + 1, m, h, hm, hf => by
    rcases Classical.em (Nav n l m) with h1 | h1
    · exact ⟨m, h1, fun _ h => h⟩
    · have h2 : ∃ j, j < n ∧ ¬ att l j j ∧ ¬ has m j ∧ ∀ k, has m k → ¬ confl l j k := Classical.byContradiction fun hn => h1 ⟨fun j hj => has_lt hm hj, hf, fun j a b d => Classical.byContradiction fun e => hn ⟨j, a, b, d, fun k hk hc => e ⟨k, hk, hc⟩⟩⟩
      obtain ⟨j, hj, hs, hn, hc⟩ := h2
      have hlt : m ||| 1 <<< j < 2 ^ n := masks_lt.1 ((mem_masks n 0 _).2 fun i hi => by
        rcases has_or.1 hi with hi | hi
        · have := has_lt hm hi; omega
        · have := has_one.1 hi; omega)
      have hgt : m < m ||| 1 <<< j := Nat.lt_of_le_of_ne (Nat.left_le_or) fun e => hn (by rw [e]; exact has_or.2 (.inr (has_one.2 rfl)))
      obtain ⟨x, hx, hsx⟩ := nav_over c (m ||| 1 <<< j) (by omega) hlt fun a b ha hb => by
        rcases has_or.1 ha with ha1 | ha1 <;> rcases has_or.1 hb with hb1 | hb1
        · exact hf a b ha1 hb1
        · have e1 := has_one.1 hb1; rw [e1]; exact fun e => hc a ha1 (.inr e)
        · have e1 := has_one.1 ha1; rw [e1]; exact fun e => hc b hb1 (.inl e)
        · have e1 := has_one.1 ha1; have e2 := has_one.1 hb1; rw [e1, e2]; exact hs
      exact ⟨x, hx, fun i hi => hsx i (has_or.2 (.inl hi))⟩
theorem nav_some (n : Nat) (l : List (Int × Int)) : 0 < (navL n l).length := by
  obtain ⟨x, hx, _⟩ := nav_over (n := n) (l := l) (2 ^ n) 0 (Nat.sub_le _ _) (Nat.two_pow_pos n) fun i _ h => absurd h has_zero
  exact List.length_pos_iff.2 fun e => by
    have := mem_navL.2 hx
    rw [e] at this; cases this
/-- the naive sets by trial of all sets -/
def cfFree (l : List (Int × Int)) (m : Nat) : Prop := ∀ i j, has m i → has m j → ¬ att l i j
theorem nav_try {n : Nat} {l : List (Int × Int)} {m : Nat} (hm : m < 2 ^ n) : Nav n l m ↔ cfFree l m ∧ ∀ y, y < 2 ^ n → cfFree l y → sub m y → (nodesB n y.testBit).length ≤ (nodesB n m.testBit).length := by
  constructor
  · intro h
    refine ⟨h.free, fun y hy hf hs => ?_⟩
    have : m = y := has_ext fun j => ⟨hs j, fun hj => Classical.byContradiction fun hn => by
      obtain ⟨k, hk, hc⟩ := h.most j (has_lt hy hj) (hf j j hj hj) hn
      exact hc.elim (hf j k hj (hs k hk)) (hf k j (hs k hk) hj)⟩
    subst this; exact Nat.le_refl _
  · rintro ⟨h1, h2⟩
    obtain ⟨x, hx, hs⟩ := nav_over (n := n) (l := l) (2 ^ n) m (Nat.sub_le _ _) hm h1
    have h3 := h2 x hx.lt2 hx.free hs
    have h4 := nodes_len hm hx.lt2 hs
    have := h4.2 (by omega)
    subst this; exact hx
end Go.Proofs.YtncimnfhfomddaaDoor
