/- Layer 14 in plain words: what may be struck from the labels that nodes can still have; all complete labellings in their order. No program in sight. -/
import Derived.Test.YtncimnfhfomddaaDoorPl11
namespace Go.Proofs.YtncimnfhfomddaaDoor
open Go.ChangeShapes Go.WideShapes Go.ChangeAt Go.RowKit

/-- those of some nodes that can have a label of x -/
def canL (D : Nat → Nat) (a : List Int) (x : Nat) : List Int := a.filter fun k => decide ((D k.toNat &&& x) ≠ 0)
/-- the labels that a node can have because of its attackers -/
def possN (D : Nat → Nat) (a : List Int) : Nat :=
  ((14 - if (canL D a 4).length < a.length then 2 else 0) - if (canL D a 2).length = 0 then 4 else 0) - if (canL D a 12).length < a.length ∨ (canL D a 8).length = 0 then 8 else 0
def lim1 (D : Nat → Nat) (a : List Int) (i : Nat) : Nat → Nat := fun k => if (k : Int) ∈ a then (if D i = 2 then D k &&& 4 else if D i = 8 then D k &&& 12 else D k) else D k
def aloneN (x : Nat) : Nat := if x = 4 then 2 else if x = 8 then 8 else 0
/-- what is known of a node's label restricts its attackers -/
def limD (D : Nat → Nat) (a : List Int) (i : Nat) : Nat → Nat :=
  if (canL (lim1 D a i) a (aloneN (D i))).length = 1 then (fun k => if (k : Int) = (canL (lim1 D a i) a (aloneN (D i))).getD 0 0 then lim1 D a i k &&& aloneN (D i) else lim1 D a i k) else lim1 D a i

/-- each label of y can still be had -/
def okD (n : Nat) (D : Nat → Nat) (y : List Int) : Prop := ∀ i, i < n → (D i).testBit (y.getD i 0).toNat = true
instance (n : Nat) (D : Nat → Nat) (y : List Int) : Decidable (okD n D y) := by unfold okD; infer_instance
def subD (D' D : Nat → Nat) : Prop := ∀ k, D' k &&& D k = D' k
theorem subD.refl (D : Nat → Nat) : subD D D := fun _ => Nat.and_self _
theorem subD.trans {A B C : Nat → Nat} (h : subD A B) (k : subD B C) : subD A C := fun i => by
  have h1 := h i; have h2 := k i
  rw [← h1, Nat.and_assoc, h2]
theorem subD.eq {A B : Nat → Nat} (h : subD A B) (k : subD B A) : A = B := funext fun i => by
  have h1 := h i; have h2 := k i
  rw [← h1, Nat.and_comm, h2]
theorem subD.le {A B : Nat → Nat} (h : subD A B) (i : Nat) : A i ≤ B i := by
  have h1 := h i
  have h2 : A i &&& B i ≤ B i := Nat.and_le_right
  omega
theorem subD.bit {A B : Nat → Nat} (h : subD A B) {i v : Nat} (hv : (A i).testBit v = true) : (B i).testBit v = true := by
  have h1 := h i
  rw [← h1, Nat.testBit_and, Bool.and_eq_true] at hv
  exact hv.2
theorem andS (a b : Nat) : (a &&& b) &&& a = a &&& b := by rw [Nat.and_comm a b, Nat.and_assoc, Nat.and_self]

theorem and_ne {a x v : Nat} (ha : a.testBit v = true) (hx : x.testBit v = true) : (a &&& x) ≠ 0 := fun e => by
  have : (a &&& x).testBit v = true := by rw [Nat.testBit_and, ha, hx]; rfl
  rw [e] at this; simp at this
theorem mem_canL {D : Nat → Nat} {a : List Int} {x : Nat} {k : Int} : k ∈ canL D a x ↔ k ∈ a ∧ (D k.toNat &&& x) ≠ 0 := by
  unfold canL
  rw [List.mem_filter, decide_eq_true_iff]
theorem canL_all {D : Nat → Nat} {a : List Int} {x : Nat} : ¬ (canL D a x).length < a.length ↔ ∀ k ∈ a, (D k.toNat &&& x) ≠ 0 := by
  have hle : (canL D a x).length ≤ a.length := List.length_filter_le _ _
  have : ¬ (canL D a x).length < a.length ↔ (canL D a x).length = a.length := by omega
  rw [this]
  unfold canL
  rw [filter_len_all]
  simp
theorem canL_none {D : Nat → Nat} {a : List Int} {x : Nat} : (canL D a x).length = 0 ↔ ∀ k ∈ a, (D k.toNat &&& x) = 0 := by
  rw [List.length_eq_zero_iff, List.eq_nil_iff_forall_not_mem]
  constructor
  · intro h k hk
    rcases Classical.em ((D k.toNat &&& x) = 0) with e | e
    · exact e
    · exact absurd (mem_canL.2 ⟨hk, e⟩) (h k)
  · intro h k hk
    obtain ⟨h1, h2⟩ := mem_canL.1 hk
    exact h2 (h k h1)

theorem poss_bits (D : Nat → Nat) (a : List Int) : ((possN D a).testBit 1 = true ↔ ¬ (canL D a 4).length < a.length) ∧ ((possN D a).testBit 2 = true ↔ ¬ (canL D a 2).length = 0) ∧ ((possN D a).testBit 3 = true ↔ ¬ ((canL D a 12).length < a.length ∨ (canL D a 8).length = 0)) := by
  unfold possN
  by_cases h1 : (canL D a 4).length < a.length <;> by_cases h2 : (canL D a 2).length = 0 <;> by_cases h3 : (canL D a 12).length < a.length ∨ (canL D a 8).length = 0 <;> simp only [h1, h2, h3, if_true, if_false] <;> decide

section
variable {n : Nat} {l : List (Int × Int)} {y : List Int} {D : Nat → Nat}
theorem mem_att {i : Nat} {k : Int} (hv : InR n l) (hk : k ∈ attackersL l i) : ∃ j : Nat, k = j ∧ j < n ∧ att l j i := by
  have h1 := mem_attackersL.1 hk
  have h2 := hv.2.2 _ h1
  obtain ⟨j, rfl⟩ := Int.eq_ofNat_of_zero_le h2.1
  exact ⟨j, rfl, by omega, h1⟩
/-- what a complete labelling says of a node, by its attackers -/
theorem com_att (hv : InR n l) (hc : comB n l y = true) {i : Nat} (hi : i < n) :
    (y.getD i 0 = 1 ∧ ∀ k ∈ attackersL l i, y.getD k.toNat 0 = 2) ∨ (y.getD i 0 = 2 ∧ ∃ k ∈ attackersL l i, y.getD k.toNat 0 = 1) ∨
    (y.getD i 0 = 3 ∧ (∃ k ∈ attackersL l i, y.getD k.toNat 0 = 3) ∧ ∀ k ∈ attackersL l i, y.getD k.toNat 0 = 2 ∨ y.getD k.toNat 0 = 3) := by
  obtain ⟨h1, h2⟩ := comB_iff.1 hc
  rcases (legB_iff hv (labB_at h1 hi)).1 (h2 i hi) with ⟨e, h⟩ | ⟨e, a, ha, h⟩ | ⟨e, ⟨a, ha, h⟩, h'⟩
  · refine .inl ⟨e, fun k hk => ?_⟩
    obtain ⟨j, rfl, hj, haj⟩ := mem_att hv hk
    exact h j haj
  · exact .inr (.inl ⟨e, a, mem_attackersL.2 ha, h⟩)
  · refine .inr (.inr ⟨e, ⟨a, mem_attackersL.2 ha, ?_⟩, fun k hk => ?_⟩)
    · have h3 := labB_at h1 (att_lt hv ha).1
      have h4 := h' a ha
      have : ((a : Int)).toNat = a := Int.toNat_natCast a
      rw [this]; omega
    · obtain ⟨j, rfl, hj, haj⟩ := mem_att hv hk
      have h3 := labB_at h1 hj
      have h4 := h' j haj
      have : ((j : Int)).toNat = j := Int.toNat_natCast j
      rw [this]; omega
theorem ok_att (hv : InR n l) (ho : okD n D y) {i : Nat} {k : Int} (hk : k ∈ attackersL l i) : (D k.toNat).testBit (y.getD k.toNat 0).toNat = true := by
  obtain ⟨j, rfl, hj, _⟩ := mem_att hv hk
  exact ho j hj
theorem poss_ok (hv : InR n l) (hc : comB n l y = true) (ho : okD n D y) {i : Nat} (hi : i < n) : (possN D (attackersL l i)).testBit (y.getD i 0).toNat = true := by
  obtain ⟨b1, b2, b3⟩ := poss_bits D (attackersL l i)
  rcases com_att hv hc hi with ⟨e, h⟩ | ⟨e, k, hk, h⟩ | ⟨e, ⟨k, hk, h⟩, h'⟩
  · rw [e]
    refine b1.2 (canL_all.2 fun k hk => and_ne (v := 2) ?_ (by decide))
    have := ok_att hv ho hk
    rw [h k hk] at this; exact this
  · rw [e]
    refine b2.2 fun hz => canL_none.1 hz k hk |> and_ne (v := 1) ?_ (by decide)
    have := ok_att hv ho hk
    rw [h] at this; exact this
  · rw [e]
    refine b3.2 fun hz => ?_
    rcases hz with hz | hz
    · refine absurd hz (canL_all.2 fun k hk => ?_)
      have := ok_att hv ho hk
      rcases h' k hk with e | e
      · rw [e] at this; exact and_ne (v := 2) this (by decide)
      · rw [e] at this; exact and_ne (v := 3) this (by decide)
    · have := ok_att hv ho hk
      rw [h] at this
      exact and_ne (v := 3) this (by decide) (canL_none.1 hz k hk)
theorem one_of_len {α : Type} {l : List α} (h : l.length = 1) {a d : α} (ha : a ∈ l) : l.getD 0 d = a := by
  match l, h with
  | [b], _ => simp at ha; simp [ha]
theorem lim1_ok (hv : InR n l) (hc : comB n l y = true) (ho : okD n D y) {i : Nat} (hi : i < n) : okD n (lim1 D (attackersL l i) i) y := fun j hj => by
  have hoj := ho j hj
  have hoi := ho i hi
  unfold lim1
  split
  case isFalse => exact hoj
  case isTrue hm =>
    have hjn : ((j : Int)).toNat = j := Int.toNat_natCast j
    split
    case isTrue e =>
      rw [Nat.testBit_and, hoj, Bool.true_and]
      rcases com_att hv hc hi with ⟨_, h⟩ | ⟨e2, _⟩ | ⟨e2, _⟩
      · have := h _ hm; rw [hjn] at this; rw [this]; decide
      · rw [e, e2] at hoi; exact absurd hoi (by decide)
      · rw [e, e2] at hoi; exact absurd hoi (by decide)
    case isFalse e =>
      split
      case isTrue e =>
        rw [Nat.testBit_and, hoj, Bool.true_and]
        rcases com_att hv hc hi with ⟨e2, h⟩ | ⟨e2, _⟩ | ⟨_, _, h⟩
        · rw [e, e2] at hoi; exact absurd hoi (by decide)
        · rw [e, e2] at hoi; exact absurd hoi (by decide)
        · have := h _ hm; rw [hjn] at this
          rcases this with this | this <;> (rw [this]; decide)
      case isFalse e => exact hoj
theorem lim_ok (hv : InR n l) (hc : comB n l y = true) (ho : okD n D y) {i : Nat} (hi : i < n) : okD n (limD D (attackersL l i) i) y := fun j hj => by
  have h1 := lim1_ok hv hc ho hi
  have hoi := ho i hi
  unfold limD
  split
  case isFalse => exact h1 j hj
  case isTrue hl =>
    show Nat.testBit (if _ then _ else _) _ = true
    split
    case isFalse => exact h1 j hj
    case isTrue e =>
      rw [Nat.testBit_and, h1 j hj, Bool.true_and]
      unfold aloneN at hl e ⊢
      by_cases e4 : D i = 4
      · rw [if_pos e4] at hl e ⊢
        rcases com_att hv hc hi with ⟨e2, _⟩ | ⟨_, k, hk, h⟩ | ⟨e2, _⟩
        · rw [e4, e2] at hoi; exact absurd hoi (by decide)
        · have hb := ok_att hv h1 hk
          rw [h] at hb
          have := one_of_len hl (d := 0) (mem_canL.2 ⟨hk, and_ne (v := 1) hb (by decide)⟩)
          rw [this] at e
          rw [← e, Int.toNat_natCast] at h
          rw [h]; decide
        · rw [e4, e2] at hoi; exact absurd hoi (by decide)
      · rw [if_neg e4] at hl e ⊢
        by_cases e8 : D i = 8
        · rw [if_pos e8] at hl e ⊢
          rcases com_att hv hc hi with ⟨e2, _⟩ | ⟨e2, _⟩ | ⟨_, ⟨k, hk, h⟩, _⟩
          · rw [e8, e2] at hoi; exact absurd hoi (by decide)
          · rw [e8, e2] at hoi; exact absurd hoi (by decide)
          · have hb := ok_att hv h1 hk
            rw [h] at hb
            have := one_of_len hl (d := 0) (mem_canL.2 ⟨hk, and_ne (v := 3) hb (by decide)⟩)
            rw [this] at e
            rw [← e, Int.toNat_natCast] at h
            rw [h]; decide
        · rw [if_neg e8] at hl
          exfalso
          have h0 : (canL (lim1 D (attackersL l i) i) (attackersL l i) 0).length = 0 := canL_none.2 fun k _ => Nat.and_zero _
          omega
theorem lim1_sub (D : Nat → Nat) (a : List Int) (i : Nat) : subD (lim1 D a i) D := fun k => by
  unfold lim1
  split
  · split
    · exact andS _ _
    · split
      · exact andS _ _
      · exact Nat.and_self _
  · exact Nat.and_self _
theorem lim_sub (D : Nat → Nat) (a : List Int) (i : Nat) : subD (limD D a i) D := by
  refine subD.trans (B := lim1 D a i) (fun k => ?_) (lim1_sub D a i)
  unfold limD
  split
  · show (if _ then _ else _) &&& _ = (if _ then _ else _)
    split
    · exact andS _ _
    · exact Nat.and_self _
  · exact Nat.and_self _
/-- the labels are settled: no rule strikes one -/
def fixD (n : Nat) (l : List (Int × Int)) (D : Nat → Nat) : Prop := ∀ i, i < n → D i &&& possN D (attackersL l i) = D i
def oneD (x : Nat) : Prop := x = 2 ∨ x = 4 ∨ x = 8
instance (x : Nat) : Decidable (oneD x) := by unfold oneD; infer_instance
def labN (x : Nat) : Int := if x = 2 then 1 else if x = 4 then 2 else 3
/-- settled, and one label left for each node: that is a complete labelling -/
theorem fix_com (hv : InR n l) (hf : fixD n l D) (h1 : ∀ i, i < n → oneD (D i)) : comB n l (lst n fun i => labN (D i)) = true := by
  have hat : ∀ i, i < n → (lst n fun i => labN (D i)).getD i 0 = labN (D i) := fun i hi => lst_getD hi
  have hlab : labB n (lst n fun i => labN (D i)) = true := by
    refine labB_iff.2 ⟨lst_length n _, fun v hv => ?_⟩
    obtain ⟨k, hk, rfl⟩ := List.getElem_of_mem hv
    have hkn : k < n := by rw [lst_length] at hk; exact hk
    have := hat k hkn
    rw [List.getD_eq_getElem?_getD, List.getElem?_eq_getElem hk, Option.getD_some] at this
    rw [this]
    unfold labN; split; omega; split <;> omega
  refine comB_iff.2 ⟨hlab, fun i hi => ?_⟩
  rw [legB_iff hv (labB_at hlab hi), hat i hi]
  obtain ⟨b1, b2, b3⟩ := poss_bits D (attackersL l i)
  have hfi := hf i hi
  have hbit : ∀ v, (D i).testBit v = true → (possN D (attackersL l i)).testBit v = true := fun v hv => by
    rw [← hfi, Nat.testBit_and, Bool.and_eq_true] at hv; exact hv.2
  have hb : ∀ {a : Nat} {x : Nat}, att l a i → (D ((a : Int)).toNat &&& x) ≠ 0 → (D a &&& x) ≠ 0 := fun {a x} _ h => by rw [Int.toNat_natCast] at h; exact h
  rcases h1 i hi with e | e | e
  · refine .inl ⟨by rw [e]; rfl, fun a ha => ?_⟩
    have h2 := canL_all.1 (b1.1 (hbit 1 (by rw [e]; decide))) a (mem_attackersL.2 ha)
    have h3 := hb ha h2
    rw [hat a (att_lt hv ha).1]
    rcases h1 a (att_lt hv ha).1 with e2 | e2 | e2
    · rw [e2] at h3; exact absurd rfl h3
    · rw [e2]; rfl
    · rw [e2] at h3; exact absurd rfl h3
  · have h2 := b2.1 (hbit 2 (by rw [e]; decide))
    obtain ⟨k, hk, h3⟩ : ∃ k ∈ attackersL l i, (D k.toNat &&& 2) ≠ 0 := by
      rcases Classical.em (∃ k ∈ attackersL l i, (D k.toNat &&& 2) ≠ 0) with h | h
      · exact h
      · exact absurd (canL_none.2 fun k hk => Classical.byContradiction fun e => h ⟨k, hk, e⟩) h2
    obtain ⟨j, rfl, hj, haj⟩ := mem_att hv hk
    refine .inr (.inl ⟨by rw [e]; rfl, j, haj, ?_⟩)
    have h4 := hb haj h3
    rw [hat j hj]
    rcases h1 j hj with e2 | e2 | e2
    · rw [e2]; rfl
    · rw [e2] at h4; exact absurd rfl h4
    · rw [e2] at h4; exact absurd rfl h4
  · have h2 := b3.1 (hbit 3 (by rw [e]; decide))
    have h5 : ¬ (canL D (attackersL l i) 12).length < (attackersL l i).length := fun h => h2 (.inl h)
    have h6 : ¬ (canL D (attackersL l i) 8).length = 0 := fun h => h2 (.inr h)
    obtain ⟨k, hk, h3⟩ : ∃ k ∈ attackersL l i, (D k.toNat &&& 8) ≠ 0 := by
      rcases Classical.em (∃ k ∈ attackersL l i, (D k.toNat &&& 8) ≠ 0) with h | h
      · exact h
      · exact absurd (canL_none.2 fun k hk => Classical.byContradiction fun e => h ⟨k, hk, e⟩) h6
    obtain ⟨j, rfl, hj, haj⟩ := mem_att hv hk
    refine .inr (.inr ⟨by rw [e]; rfl, ⟨j, haj, ?_⟩, fun a ha => ?_⟩)
    · have h4 := hb haj h3
      rw [hat j hj]
      rcases h1 j hj with e2 | e2 | e2
      · rw [e2] at h4; exact absurd rfl h4
      · rw [e2] at h4; exact absurd rfl h4
      · rw [e2]; decide
    · have h4 := hb ha (canL_all.1 h5 a (mem_attackersL.2 ha))
      rw [hat a (att_lt hv ha).1]
      rcases h1 a (att_lt hv ha).1 with e2 | e2 | e2
      · rw [e2] at h4; exact absurd rfl h4
      · rw [e2]; decide
      · rw [e2]; decide
theorem ok_one {i : Nat} (ho : okD n D y) (hi : i < n) (h1 : oneD (D i)) (hy : 1 ≤ y.getD i 0 ∧ y.getD i 0 ≤ 3) : y.getD i 0 = labN (D i) := by
  have h := ho i hi
  have : y.getD i 0 = 1 ∨ y.getD i 0 = 2 ∨ y.getD i 0 = 3 := by omega
  rcases h1 with e | e | e <;> rw [e] at h ⊢ <;> rcases this with e2 | e2 | e2 <;> rw [e2] at h ⊢ <;> first | rfl | exact absurd h (by decide)

/-- the complete labellings that can still be had, in their order -/
def solL (n : Nat) (l : List (Int × Int)) (D : Nat → Nat) : List (List Int) := (labsL n).filter fun y => comB n l y && decide (okD n D y)
theorem mem_sol : y ∈ solL n l D ↔ comB n l y = true ∧ okD n D y := by
  unfold solL
  rw [List.mem_filter, Bool.and_eq_true, decide_eq_true_iff, mem_labs]
  exact ⟨fun h => h.2, fun h => ⟨(comB_iff.1 h.1).1, h⟩⟩
/-- the order of labellings -/
def lexL (x y : List Int) : Prop := ∃ i : Nat, (∀ j, j < i → x.getD j 0 = y.getD j 0) ∧ x.getD i 0 < y.getD i 0
theorem lexL_asymm {x y : List Int} (h : lexL x y) : ¬ lexL y x := by
  rintro ⟨j, h3, h4⟩
  obtain ⟨i, h1, h2⟩ := h
  rcases Nat.lt_trichotomy i j with h | h | h
  · have := h3 i h; omega
  · subst h; omega
  · have := h1 j h; omega
theorem sorted_extR {α : Type} {R : α → α → Prop} (hR : ∀ {a b}, R a b → ¬ R b a) : ∀ {l1 l2 : List α}, l1.Pairwise R → l2.Pairwise R → (∀ x, x ∈ l1 ↔ x ∈ l2) → l1 = l2
  | [], [], _, _, _ => rfl
  | [], b :: l2, _, _, h => absurd ((h b).2 (List.mem_cons_self ..)) (by simp)
  | a :: l1, [], _, _, h => absurd ((h a).1 (List.mem_cons_self ..)) (by simp)
  | a :: l1, b :: l2, h1, h2, h => by
    obtain ⟨p1, p2⟩ := List.pairwise_cons.1 h1
    obtain ⟨q1, q2⟩ := List.pairwise_cons.1 h2
    have hab : a = b := by
      rcases List.mem_cons.1 ((h a).1 (List.mem_cons_self ..)) with e | hm
      · exact e
      · rcases List.mem_cons.1 ((h b).2 (List.mem_cons_self ..)) with e | hm2
        · exact e.symm
        · exact absurd (p1 b hm2) (hR (q1 a hm))
    subst hab
    refine congrArg _ (sorted_extR hR p2 q2 fun x => ?_)
    have hx := h x
    rw [List.mem_cons, List.mem_cons] at hx
    constructor
    · intro hm
      rcases hx.1 (.inr hm) with e | hm2
      · subst e; exact absurd (p1 x hm) (fun r => hR r r)
      · exact hm2
    · intro hm
      rcases hx.2 (.inr hm) with e | hm2
      · subst e; exact absurd (q1 x hm) (fun r => hR r r)
      · exact hm2
theorem labs_sorted : ∀ n, (labsL n).Pairwise lexL
  | 0 => by simp [labsL]
  | n + 1 => by
    rw [labsL, List.pairwise_flatMap]
    have hn : ∀ x ∈ labsL n, x.length = n := fun x hx => (labB_iff.1 ((mem_labs n x).1 hx)).1
    have hl : ∀ (x : List Int) (a : Int) (j : Nat), j < x.length → (x ++ [a]).getD j 0 = x.getD j 0 := fun x a j hj => by simp [List.getD, List.getElem?_append_left hj]
    have hr : ∀ (x : List Int) (a : Int), (x ++ [a]).getD x.length 0 = a := fun x a => by simp [List.getD]
    refine ⟨fun x hx => ?_, (labs_sorted n).imp_of_mem fun {a b} ha hb hab x hx y hy => ?_⟩
    · have hk : ∀ a b : Int, a < b → lexL (x ++ [a]) (x ++ [b]) := fun a b hab => ⟨x.length, fun j hj => by rw [hl _ _ _ hj, hl _ _ _ hj], by rw [hr, hr]; exact hab⟩
      simp only [List.pairwise_cons, List.mem_cons, List.not_mem_nil, or_false, forall_eq_or_imp, forall_eq, List.Pairwise.nil, and_true, false_implies, implies_true]
      exact ⟨⟨hk 1 2 (by omega), hk 1 3 (by omega)⟩, hk 2 3 (by omega)⟩
    · obtain ⟨i, h1, h2⟩ := hab
      have la := hn a ha; have lb := hn b hb
      have hi : i < n := by
        rcases Nat.lt_or_ge i n with h | h
        · exact h
        · exfalso
          have e1 : a.getD i 0 = 0 := by rw [List.getD_eq_getElem?_getD, List.getElem?_eq_none (by omega)]; rfl
          have e2 : b.getD i 0 = 0 := by rw [List.getD_eq_getElem?_getD, List.getElem?_eq_none (by omega)]; rfl
          omega
      obtain ⟨u, rfl⟩ : ∃ u, x = a ++ [u] := by
        simp only [List.mem_cons, List.not_mem_nil, or_false] at hx; rcases hx with h | h | h <;> exact ⟨_, h⟩
      obtain ⟨v, rfl⟩ : ∃ v, y = b ++ [v] := by
        simp only [List.mem_cons, List.not_mem_nil, or_false] at hy; rcases hy with h | h | h <;> exact ⟨_, h⟩
      exact ⟨i, fun j hj => by rw [hl _ _ _ (by omega), hl _ _ _ (by omega)]; exact h1 j hj, by rw [hl _ _ _ (by omega), hl _ _ _ (by omega)]; exact h2⟩
theorem sol_sorted (n : Nat) (l : List (Int × Int)) (D : Nat → Nat) : (solL n l D).Pairwise lexL := (labs_sorted n).filter _
theorem sol_congr {D' : Nat → Nat} (h : ∀ y, comB n l y = true → (okD n D y ↔ okD n D' y)) : solL n l D = solL n l D' :=
  sorted_extR lexL_asymm (sol_sorted ..) (sol_sorted ..) fun y => by
    rw [mem_sol, mem_sol]
    exact ⟨fun hy => ⟨hy.1, (h y hy.1).1 hy.2⟩, fun hy => ⟨hy.1, (h y hy.1).2 hy.2⟩⟩
theorem sol_sub {D' : Nat → Nat} (hs : subD D' D) (h : ∀ y, comB n l y = true → okD n D y → okD n D' y) : solL n l D' = solL n l D :=
  sol_congr fun y hy => ⟨fun ho i hi => hs.bit (ho i hi), h y hy⟩
theorem sol_zero {i : Nat} (hi : i < n) (h : D i = 0) : solL n l D = [] := by
  rw [List.eq_nil_iff_forall_not_mem]
  intro y hy
  have := (mem_sol.1 hy).2 i hi
  rw [h] at this; simp at this
theorem sol_one (hv : InR n l) (hf : fixD n l D) (h1 : ∀ i, i < n → oneD (D i)) : solL n l D = [lst n fun i => labN (D i)] := by
  refine sorted_extR lexL_asymm (sol_sorted ..) (List.pairwise_singleton ..) fun y => ?_
  rw [mem_sol, List.mem_singleton]
  constructor
  · rintro ⟨hc, ho⟩
    have hl := (comB_iff.1 hc).1
    rw [list_of_getD (labB_iff.1 hl).1]
    exact lst_congr fun i hi => ok_one ho hi (h1 i hi) (labB_at hl hi)
  · rintro rfl
    refine ⟨fix_com hv hf h1, fun i hi => ?_⟩
    rw [lst_getD hi]
    rcases h1 i hi with e | e | e <;> rw [e] <;> decide
def updN (D : Nat → Nat) (o x : Nat) : Nat → Nat := fun k => if k = o then x else D k
def branchL (n : Nat) (l : List (Int × Int)) (D : Nat → Nat) (o x : Nat) : List (List Int) := if (D o &&& x) ≠ 0 then solL n l (updN D o x) else []
theorem mem_branch {o x v : Nat} (hx : ∀ b, x.testBit b = true ↔ b = v) (ho : o < n) : y ∈ branchL n l D o x ↔ (comB n l y = true ∧ okD n D y) ∧ (y.getD o 0).toNat = v := by
  have hbit : (D o &&& x) ≠ 0 ↔ (D o).testBit v = true := by
    constructor
    · intro h
      rcases Classical.em ((D o).testBit v = true) with e | e
      · exact e
      · exfalso
        refine h (Nat.eq_of_testBit_eq fun b => ?_)
        rw [Nat.testBit_and, Nat.zero_testBit]
        cases hb : x.testBit b
        · simp
        · have := (hx b).1 hb; subst this; simp at e; simp [e]
    · intro h; exact and_ne h ((hx v).2 rfl)
  unfold branchL
  split
  case isTrue h =>
    rw [mem_sol]
    constructor
    · rintro ⟨hc, hok⟩
      have h1 := hok o ho
      unfold updN at h1
      rw [if_pos rfl] at h1
      have h2 := (hx _).1 h1
      refine ⟨⟨hc, fun i hi => ?_⟩, h2⟩
      have h3 := hok i hi
      unfold updN at h3
      by_cases e : i = o
      · subst e; rw [h2]; exact hbit.1 h
      · rw [if_neg e] at h3; exact h3
    · rintro ⟨⟨hc, hok⟩, h2⟩
      refine ⟨hc, fun i hi => ?_⟩
      unfold updN
      by_cases e : i = o
      · subst e; rw [if_pos rfl, h2]; exact (hx v).2 rfl
      · rw [if_neg e]; exact hok i hi
  case isFalse h =>
    constructor
    · intro hm; cases hm
    · rintro ⟨⟨hc, hok⟩, h2⟩
      have := hok o ho
      rw [h2] at this
      exact absurd (hbit.2 this) h
/-- the first node that has several labels is tried with each of them -/
theorem sol_split {o : Nat} (ho : o < n) (hb : ∀ j, j < o → oneD (D j)) : solL n l D = branchL n l D o 2 ++ branchL n l D o 4 ++ branchL n l D o 8 := by
  have hx : ∀ (x v : Nat), (x = 2 ∧ v = 1) ∨ (x = 4 ∧ v = 2) ∨ (x = 8 ∧ v = 3) → ∀ b, x.testBit b = true ↔ b = v := by
    rintro x v h b
    have hp : ∀ v : Nat, (2 ^ v).testBit b = true ↔ b = v := fun v => by rw [Nat.testBit_two_pow]; simp [eq_comm]
    rcases h with ⟨rfl, rfl⟩ | ⟨rfl, rfl⟩ | ⟨rfl, rfl⟩
    · exact hp 1
    · exact hp 2
    · exact hp 3
  have m1 := fun y => mem_branch (y := y) (l := l) (D := D) (hx 2 1 (by simp)) ho
  have m2 := fun y => mem_branch (y := y) (l := l) (D := D) (hx 4 2 (by simp)) ho
  have m3 := fun y => mem_branch (y := y) (l := l) (D := D) (hx 8 3 (by simp)) ho
  have hsame : ∀ {y z : List Int}, comB n l y = true → okD n D y → comB n l z = true → okD n D z → ∀ j, j < o → y.getD j 0 = z.getD j 0 := fun {y z} hy hyo hz hzo j hj => by
    rw [ok_one hyo (by omega) (hb j hj) (labB_at (comB_iff.1 hy).1 (by omega)), ok_one hzo (by omega) (hb j hj) (labB_at (comB_iff.1 hz).1 (by omega))]
  have hcross : ∀ {y z : List Int} {a b : Nat}, ((comB n l y = true ∧ okD n D y) ∧ (y.getD o 0).toNat = a) → ((comB n l z = true ∧ okD n D z) ∧ (z.getD o 0).toNat = b) → a < b → lexL y z := fun {y z a b} hy hz hab =>
    ⟨o, hsame hy.1.1 hy.1.2 hz.1.1 hz.1.2, by have := labB_at (comB_iff.1 hy.1.1).1 ho; have := labB_at (comB_iff.1 hz.1.1).1 ho; omega⟩
  have hso : ∀ x, (branchL n l D o x).Pairwise lexL := fun x => by
    unfold branchL
    split
    · exact sol_sorted ..
    · exact List.Pairwise.nil
  refine sorted_extR lexL_asymm (sol_sorted ..) (List.pairwise_append.2 ⟨List.pairwise_append.2 ⟨hso 2, hso 4, fun y hy z hz => hcross ((m1 y).1 hy) ((m2 z).1 hz) (by omega)⟩, hso 8, fun y hy z hz => ?_⟩) fun y => ?_
  · rcases List.mem_append.1 hy with hy | hy
    · exact hcross ((m1 y).1 hy) ((m3 z).1 hz) (by omega)
    · exact hcross ((m2 y).1 hy) ((m3 z).1 hz) (by omega)
  · rw [List.mem_append, List.mem_append, m1, m2, m3, mem_sol]
    constructor
    · intro h
      have := labB_at (comB_iff.1 h.1).1 ho
      have h3 : (y.getD o 0).toNat = 1 ∨ (y.getD o 0).toNat = 2 ∨ (y.getD o 0).toNat = 3 := by omega
      rcases h3 with e | e | e
      · exact .inl (.inl ⟨h, e⟩)
      · exact .inl (.inr ⟨h, e⟩)
      · exact .inr ⟨h, e⟩
    · rintro ((h | h) | h) <;> exact h.1
/-- one node of a round: what its attackers forbid is struck, then its attackers are limited -/
def strikeD (l : List (Int × Int)) (D : Nat → Nat) (i : Nat) : Nat → Nat := updN D i (D i &&& possN D (attackersL l i))
def stepD (l : List (Int × Int)) (D : Nat → Nat) (i : Nat) : Nat → Nat := limD (strikeD l D i) (attackersL l i) i
theorem upd_sub {o x : Nat} (h : x &&& D o = x) : subD (updN D o x) D := fun k => by
  unfold updN
  split
  case isTrue e => rw [e]; exact h
  case isFalse => exact Nat.and_self _
theorem strike_sub (l : List (Int × Int)) (D : Nat → Nat) (i : Nat) : subD (strikeD l D i) D := upd_sub (andS _ _)
theorem step_sub (l : List (Int × Int)) (D : Nat → Nat) (i : Nat) : subD (stepD l D i) D := (lim_sub _ _ _).trans (strike_sub l D i)
theorem strike_ok (hv : InR n l) (hc : comB n l y = true) (ho : okD n D y) {i : Nat} (hi : i < n) : okD n (strikeD l D i) y := fun j hj => by
  unfold strikeD updN
  by_cases e : j = i
  · subst e
    rw [if_pos rfl, Nat.testBit_and, ho j hj, poss_ok hv hc ho hj]; rfl
  · rw [if_neg e]; exact ho j hj
theorem step_ok (hv : InR n l) (hc : comB n l y = true) (ho : okD n D y) {i : Nat} (hi : i < n) : okD n (stepD l D i) y := lim_ok hv hc (strike_ok hv hc ho hi) hi
theorem step_eq {i : Nat} (h : stepD l D i = D) : D i &&& possN D (attackersL l i) = D i := by
  have h1 : subD D (strikeD l D i) := by
    have := lim_sub (strikeD l D i) (attackersL l i) i
    unfold stepD at h
    rw [h] at this; exact this
  have h2 := (strike_sub l D i).eq h1
  have h3 := congrFun h2 i
  unfold strikeD updN at h3
  rw [if_pos rfl] at h3
  exact h3
/-- the state of a round: B before it, D now, i nodes done -/
structure RoundD (n : Nat) (l : List (Int × Int)) (B D : Nat → Nat) (i : Nat) : Prop where
  sub : subD D B
  ok : ∀ y, comB n l y = true → okD n B y → okD n D y
  fix : D = B → ∀ j, j < i → B j &&& possN B (attackersL l j) = B j
theorem RoundD.start (n : Nat) (l : List (Int × Int)) (B : Nat → Nat) : RoundD n l B B 0 := ⟨subD.refl B, fun _ _ h => h, fun _ j hj => by omega⟩
theorem RoundD.step {B : Nat → Nat} {i : Nat} (hv : InR n l) (hi : i < n) (h : RoundD n l B D i) : RoundD n l B (stepD l D i) (i + 1) := by
  refine ⟨(step_sub l D i).trans h.sub, fun y hc ho => step_ok hv hc (h.ok y hc ho) hi, fun e j hj => ?_⟩
  have h1 : D = B := by
    have := step_sub l D i
    rw [e] at this
    exact h.sub.eq this
  rcases Nat.lt_or_ge j i with hlt | hge
  · exact h.fix h1 j hlt
  · have : j = i := by omega
    subst this
    have h2 := step_eq (h1 ▸ e : stepD l B j = B)
    exact h2
theorem RoundD.sol {B : Nat → Nat} {i : Nat} (h : RoundD n l B D i) : solL n l D = solL n l B := sol_sub h.sub h.ok
theorem RoundD.struck {B : Nat → Nat} {i j : Nat} (hv : InR n l) (hi : i < n) (h : RoundD n l B D i) (hj : j < n) (h0 : strikeD l D i j = 0) : solL n l B = [] := by
  rw [← sol_sub ((strike_sub l D i).trans h.sub) fun y hc ho => strike_ok hv hc (h.ok y hc ho) hi]
  exact sol_zero hj h0
def sumD (n : Nat) (D : Nat → Nat) : Nat := ((List.range n).map D).sum
theorem sumD_succ (n : Nat) (D : Nat → Nat) : sumD (n + 1) D = sumD n D + D n := by unfold sumD; rw [List.range_succ, List.map_append, List.sum_append]; simp
theorem sumD_le {A B : Nat → Nat} (h : subD A B) : ∀ n, sumD n A ≤ sumD n B
  | 0 => by simp [sumD]
  | n + 1 => by rw [sumD_succ, sumD_succ]; have := sumD_le h n; have := h.le n; omega
theorem sumD_lt {A B : Nat → Nat} (h : subD A B) : ∀ (n : Nat) (i : Nat), i < n → A i ≠ B i → sumD n A < sumD n B
  | 0, i, hi, _ => by omega
  | n + 1, i, hi, hne => by
    rw [sumD_succ, sumD_succ]
    have hle := h.le n
    rcases Nat.lt_or_ge i n with hlt | hge
    · have := sumD_lt h n i hlt hne; omega
    · have : i = n := by omega
      subst this
      have := sumD_le h i; omega
def fullD (n : Nat) : Nat → Nat := fun k => if k < n then 14 else 0
theorem full_zero {k : Nat} (h : subD D (fullD n)) (hk : n ≤ k) : D k = 0 := by
  have := h.le k
  unfold fullD at this
  rw [if_neg (by omega)] at this; omega
theorem full_le (h : subD D (fullD n)) (k : Nat) : D k ≤ 14 := by
  have := h.le k
  unfold fullD at this
  split at this <;> omega
theorem sub_ne {A B : Nat → Nat} (hB : subD B (fullD n)) (h : subD A B) (hne : A ≠ B) : sumD n A < sumD n B := by
  rcases Classical.em (∃ i, i < n ∧ A i ≠ B i) with ⟨i, hi, h1⟩ | h1
  · exact sumD_lt h n i hi h1
  · refine absurd (funext fun i => ?_) hne
    rcases Nat.lt_or_ge i n with hi | hi
    · exact Classical.byContradiction fun e => h1 ⟨i, hi, e⟩
    · rw [full_zero hB hi, full_zero (h.trans hB) hi]
theorem ok_full (hc : comB n l y = true) : okD n (fullD n) y := fun i hi => by
  have := labB_at (comB_iff.1 hc).1 hi
  unfold fullD
  rw [if_pos hi]
  have : y.getD i 0 = 1 ∨ y.getD i 0 = 2 ∨ y.getD i 0 = 3 := by omega
  rcases this with e | e | e <;> rw [e] <;> decide
/-- all complete labellings -/
def compL (n : Nat) (l : List (Int × Int)) : List (List Int) := (labsL n).filter (comB n l)
theorem sol_full (n : Nat) (l : List (Int × Int)) : solL n l (fullD n) = compL n l :=
  sorted_extR lexL_asymm (sol_sorted ..) ((labs_sorted n).filter _) fun y => by
    unfold compL
    rw [mem_sol, List.mem_filter, mem_labs]
    exact ⟨fun h => ⟨(comB_iff.1 h.1).1, h.1⟩, fun h => ⟨h.2, ok_full h.2⟩⟩
/-- a label that is tried: fewer labels are left -/
theorem branch_sub {o x : Nat} (hx : oneD x) (hD : (D o &&& x) ≠ 0) : subD (updN D o x) D := by
  refine upd_sub ?_
  have hp : ∀ v, x = 2 ^ v → x &&& D o = x := fun v e => by
    refine Nat.eq_of_testBit_eq fun b => ?_
    rw [Nat.testBit_and]
    subst e
    rw [Nat.testBit_two_pow]
    by_cases hb : v = b
    · subst hb
      have : (D o).testBit v = true := by
        rcases Classical.em ((D o).testBit v = true) with h | h
        · exact h
        · refine absurd (Nat.eq_of_testBit_eq fun b => ?_) hD
          rw [Nat.testBit_and, Nat.testBit_two_pow, Nat.zero_testBit]
          by_cases hb : v = b
          · subst hb; simp at h; simp [h]
          · simp [hb]
      rw [this]; simp
    · simp [hb]
  rcases hx with e | e | e
  · exact hp 1 e
  · exact hp 2 e
  · exact hp 3 e
theorem branch_lt {o x : Nat} (hx : oneD x) (hD : (D o &&& x) ≠ 0) (h1 : ¬ oneD (D o)) (ho : o < n) : sumD n (updN D o x) < sumD n D := by
  refine sumD_lt (branch_sub hx hD) n o ho fun e => h1 ?_
  unfold updN at e
  rw [if_pos rfl] at e
  rw [← e]; exact hx
/-- the reference's search: labels so far, the others Undecided -/
def padL (n : Nat) (s : List Int) : List Int := s ++ List.replicate (n - s.length) 3
def settB (n : Nat) (l : List (Int × Int)) (s : List Int) : Bool := (illL n l (padL n s)).all fun k => !(decide (k < (s.length : Int)) && (attackersL l k).all fun a => decide (a < (s.length : Int)))
def prefD (n : Nat) (s : List Int) : Nat → Nat := fun k => if k < s.length then 2 ^ (s.getD k 0).toNat else if k < n then 14 else 0
def prefL (n : Nat) (l : List (Int × Int)) (s : List Int) : List (List Int) := solL n l (prefD n s)
theorem pref_nil (n : Nat) (l : List (Int × Int)) : prefL n l [] = compL n l := by
  unfold prefL
  rw [← sol_full]
  refine congrArg _ (funext fun k => ?_)
  unfold prefD fullD
  simp
theorem pref_at {s : List Int} {k : Nat} (hs : ∀ v ∈ s, 1 ≤ v ∧ v ≤ 3) (hn : s.length ≤ n) (hy : y ∈ prefL n l s) (hk : k < s.length) : y.getD k 0 = s.getD k 0 := by
  obtain ⟨hc, ho⟩ := mem_sol.1 hy
  have h := ho k (by omega)
  unfold prefD at h
  rw [if_pos hk, Nat.testBit_two_pow] at h
  have h1 := labB_at (comB_iff.1 hc).1 (show k < n by omega)
  have h2 : 1 ≤ s.getD k 0 ∧ s.getD k 0 ≤ 3 := by
    rw [List.getD_eq_getElem?_getD, List.getElem?_eq_getElem hk, Option.getD_some]; exact hs _ (List.getElem_mem hk)
  have h3 := of_decide_eq_true h
  omega
theorem pad_at {s : List Int} {k : Nat} (hk : k < s.length) : (padL n s).getD k 0 = s.getD k 0 := by
  unfold padL
  simp [List.getD, List.getElem?_append_left hk]
theorem pad_lab {s : List Int} (hs : ∀ v ∈ s, 1 ≤ v ∧ v ≤ 3) (hn : s.length ≤ n) : labB n (padL n s) = true := by
  refine labB_iff.2 ⟨by unfold padL; simp; omega, fun v hv => ?_⟩
  unfold padL at hv
  rcases List.mem_append.1 hv with h | h
  · exact hs v h
  · have := (List.mem_replicate.1 h).2; omega
theorem mem_ill {x : List Int} {k : Int} (hx : labB n x = true) : k ∈ illL n l x ↔ ∃ i : Nat, k = i ∧ i < n ∧ legB l x i = false := by
  unfold illL
  rw [if_pos hx, mem_nodesB]
  constructor
  · rintro ⟨i, hi, hb, rfl⟩; exact ⟨i, rfl, hi, by simpa using hb⟩
  · rintro ⟨i, rfl, hi, hb⟩; exact ⟨i, hi, by simpa using hb, rfl⟩
theorem pref_not {s : List Int} (hv : InR n l) (hs : ∀ v ∈ s, 1 ≤ v ∧ v ≤ 3) (hn : s.length ≤ n) (h : settB n l s = false) : prefL n l s = [] := by
  rw [List.eq_nil_iff_forall_not_mem]
  intro y hy
  unfold settB at h
  rw [List.all_eq_false] at h
  obtain ⟨k, hk, h2⟩ := h
  obtain ⟨i, rfl, hi, hb⟩ := (mem_ill (pad_lab hs hn)).1 hk
  simp only [Bool.not_eq_true, Bool.not_eq_false', Bool.and_eq_true, decide_eq_true_iff, List.all_eq_true] at h2
  obtain ⟨h3, h4⟩ := h2
  have h5 := (comB_iff.1 (mem_sol.1 hy).1).2 i hi
  have : legB l y i = legB l (padL n s) i := leg_congr (by rw [pref_at hs hn hy (by omega), pad_at (by omega)]) fun a ha => by
    obtain ⟨j, rfl, hj, _⟩ := mem_att hv ha
    have h6 := h4 _ ha
    have : ((j : Int)).toNat = j := Int.toNat_natCast j
    rw [this, pref_at hs hn hy (by omega), pad_at (by omega)]
  rw [h5, hb] at this
  cases this
theorem pref_end {s : List Int} (hv : InR n l) (hs : ∀ v ∈ s, 1 ≤ v ∧ v ≤ 3) (hn : s.length = n) (h : settB n l s = true) : prefL n l s = [s] := by
  have hp : padL n s = s := by unfold padL; rw [hn, Nat.sub_self]; simp
  have hlab : labB n s = true := by have := pad_lab hs (Nat.le_of_eq hn); rw [hp] at this; exact this
  refine sorted_extR lexL_asymm (sol_sorted ..) (List.pairwise_singleton ..) fun y => ?_
  rw [List.mem_singleton]
  constructor
  · intro hy
    have hl := (comB_iff.1 (mem_sol.1 hy).1).1
    rw [list_of_getD (labB_iff.1 hl).1, list_of_getD hn]
    exact lst_congr fun i hi => pref_at hs (Nat.le_of_eq hn) hy (by omega)
  · rintro rfl
    refine mem_sol.2 ⟨comB_iff.2 ⟨hlab, fun i hi => ?_⟩, fun i hi => ?_⟩
    · unfold settB at h
      rw [List.all_eq_true, hp] at h
      rcases hb : legB l y i with _ | _
      · exfalso
        have h2 := h i ((mem_ill hlab).2 ⟨i, rfl, hi, hb⟩)
        rw [Bool.not_eq_true'] at h2
        have : (decide ((i : Int) < (y.length : Int)) && (attackersL l i).all fun a => decide (a < (y.length : Int))) = true := by
          rw [Bool.and_eq_true, decide_eq_true_iff, List.all_eq_true]
          refine ⟨by omega, fun a ha => ?_⟩
          obtain ⟨j, rfl, hj, _⟩ := mem_att hv ha
          rw [decide_eq_true_iff]; omega
        rw [h2] at this; cases this
      · rfl
    · unfold prefD
      rw [if_pos (by omega), Nat.testBit_two_pow]; simp
theorem pref_split {s : List Int} (hs : ∀ v ∈ s, 1 ≤ v ∧ v ≤ 3) (hn : s.length < n) : prefL n l s = prefL n l (s ++ [1]) ++ prefL n l (s ++ [2]) ++ prefL n l (s ++ [3]) := by
  have hone : ∀ j, j < s.length → oneD (prefD n s j) := fun j hj => by
    unfold prefD
    rw [if_pos hj]
    have h2 : 1 ≤ s.getD j 0 ∧ s.getD j 0 ≤ 3 := by
      rw [List.getD_eq_getElem?_getD, List.getElem?_eq_getElem hj, Option.getD_some]; exact hs _ (List.getElem_mem hj)
    have : s.getD j 0 = 1 ∨ s.getD j 0 = 2 ∨ s.getD j 0 = 3 := by omega
    rcases this with e | e | e <;> rw [e] <;> decide
  have hup : ∀ (v : Int) (x : Nat), 2 ^ v.toNat = x → updN (prefD n s) s.length x = prefD n (s ++ [v]) := fun v x hx => funext fun k => by
    unfold updN prefD
    rcases Nat.lt_trichotomy k s.length with h | h | h
    · rw [if_neg (by omega), if_pos h, if_pos (by simp; omega)]
      simp [List.getD, List.getElem?_append_left h]
    · subst h
      rw [if_pos rfl, if_pos (by simp)]
      simp [List.getD, hx]
    · rw [if_neg (by omega), if_neg (by omega), if_neg (c := k < (s ++ [v]).length) (by simp; omega)]
  have ho : prefD n s s.length = 14 := by unfold prefD; rw [if_neg (by omega), if_pos hn]
  unfold prefL
  rw [sol_split (o := s.length) hn hone]
  unfold branchL
  rw [ho, if_pos (by decide), if_pos (by decide), if_pos (by decide), hup 1 2 (by decide), hup 2 4 (by decide), hup 3 8 (by decide)]
end
end Go.Proofs.YtncimnfhfomddaaDoor
