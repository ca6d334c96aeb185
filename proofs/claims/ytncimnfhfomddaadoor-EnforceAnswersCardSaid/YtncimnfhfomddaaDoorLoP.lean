import Derived.Test.YtncimnfhfomddaaDoorEnL
/- Loose in plain words: the sets that contain a set, and the best of them. -/
namespace Go.Proofs.YtncimnfhfomddaaDoor
open Go.ChangeShapes Go.WideShapes Go.ChangeAt Go.RowKit

/-- the nodes that are free to be added -/
def rstL (n : Nat) (s : List Int) : List Int := nodesB n fun a => !inB s (a : Int)
/-- the k-th set that contains s -/
def canL (n : Nat) (s : List Int) (k : Nat) : List Int := nodesB n fun a => inB s (a : Int) || (List.range (rstL n s).length).any fun i => decide ((rstL n s).getD i 0 = (a : Int)) && k.testBit i
/-- a set is better than another one -/
def betB (n : Nat) (G : List (Int × Int)) (kind : Int) (a b : List Int) : Bool :=
  decide ((dutL n G a kind).length < (dutL n G b kind).length) || (decide ((dutL n G a kind).length = (dutL n G b kind).length) && (decide (a.length < b.length) || (decide (a.length = b.length) && decide (cmpLs a b < 0))))
def betS (n : Nat) (G : List (Int × Int)) (kind : Int) (o : Option (List Int)) (t : List Int) : Option (List Int) :=
  if hpB n t kind = true then o else match o with
    | none => some t
    | some b => if betB n G kind t b = true then some t else some b
/-- the best of the first k sets -/
def lstK (n : Nat) (G : List (Int × Int)) (s : List Int) (kind : Int) (k : Nat) : Option (List Int) := (List.range k).foldl (fun o i => betS n G kind o (canL n s i)) none
theorem lstK_succ (n : Nat) (G : List (Int × Int)) (s : List Int) (kind : Int) (k : Nat) : lstK n G s kind (k + 1) = betS n G kind (lstK n G s kind k) (canL n s k) := by
  unfold lstK; rw [List.range_succ, List.foldl_append]; rfl
section
variable {n : Nat} {G : List (Int × Int)} {s : List Int} {kind : Int}
theorem rst_mem {x : Int} : x ∈ rstL n s ↔ ∃ a : Nat, a < n ∧ x = a ∧ (a : Int) ∉ s := by
  unfold rstL
  rw [mem_nodesB]
  constructor
  · rintro ⟨a, h1, h2, rfl⟩
    exact ⟨a, h1, rfl, fun h => by rw [(inB_iff _ _).2 h] at h2; cases h2⟩
  · rintro ⟨a, h1, rfl, h2⟩
    exact ⟨a, h1, by rw [Bool.not_eq_true', ← Bool.not_eq_true, inB_iff]; exact h2, rfl⟩
theorem rst_len : (rstL n s).length ≤ n := nodesB_length _ _
theorem can_set (k : Nat) : setB n (canL n s k) = true := setB_nodes _ _
theorem can_mem {k : Nat} {a : Nat} (ha : a < n) : (a : Int) ∈ canL n s k ↔ (a : Int) ∈ s ∨ ∃ i, i < (rstL n s).length ∧ (rstL n s).getD i 0 = (a : Int) ∧ k.testBit i = true := by
  unfold canL
  rw [mem_nodesB]
  constructor
  · rintro ⟨b, h1, h2, e⟩
    have e := Int.ofNat_inj.1 e
    subst e
    rw [Bool.or_eq_true, inB_iff, List.any_eq_true] at h2
    rcases h2 with h2 | ⟨i, hi, h2⟩
    · exact .inl h2
    · rw [Bool.and_eq_true, decide_eq_true_iff] at h2
      exact .inr ⟨i, List.mem_range.1 hi, h2⟩
  · intro h
    refine ⟨a, ha, ?_, rfl⟩
    rw [Bool.or_eq_true, inB_iff, List.any_eq_true]
    rcases h with h | ⟨i, hi, h1, h2⟩
    · exact .inl h
    · exact .inr ⟨i, List.mem_range.2 hi, by rw [Bool.and_eq_true, decide_eq_true_iff]; exact ⟨h1, h2⟩⟩
theorem set_ext {x y : List Int} (hx : setB n x = true) (hy : setB n y = true) (h : ∀ a : Nat, a < n → ((a : Int) ∈ x ↔ (a : Int) ∈ y)) : x = y := by
  rw [← set_nodes hx, ← set_nodes hy]
  have : ∀ a, a < n → (maskN x).testBit a = (maskN y).testBit a := fun a ha => by
    rw [← inB_maskN hx, ← inB_maskN hy, Bool.eq_iff_iff, inB_iff, inB_iff]; exact h a ha
  unfold nodesB
  congr 1
  exact List.filter_congr fun a ha => this a (List.mem_range.1 ha)
theorem can_zero (hs : setB n s = true) : canL n s 0 = s := set_ext (can_set 0) hs fun a ha => by
  rw [can_mem ha]
  simp
theorem can_sub (hs : setB n s = true) (k : Nat) : ∀ x ∈ s, x ∈ canL n s k := fun x hx => by
  have := setB_range hs x hx
  obtain ⟨a, rfl⟩ := Int.eq_ofNat_of_zero_le this.1
  exact (can_mem (by omega)).2 (.inl hx)
theorem mask_of (p : Nat → Bool) (r : Nat) : ∃ k, k < 2 ^ r ∧ ∀ i, i < r → k.testBit i = p i := by
  refine ⟨maskN (nodesB r p), maskN_lt _ _ fun x hx => ?_, fun i hi => ?_⟩
  · obtain ⟨j, hj, _, rfl⟩ := mem_nodesB.1 hx
    simpa using hj
  · have h := mask_nodesB (n := r) (p := p) (j := i)
    unfold has at h
    rw [Bool.eq_iff_iff, h]
    simp [hi]
/-- every set that contains s is one of them -/
theorem can_of {t : List Int} (ht : setB n t = true) (hst : ∀ x ∈ s, x ∈ t) : ∃ k, k < 2 ^ (rstL n s).length ∧ canL n s k = t := by
  obtain ⟨k, hk, h⟩ := mask_of (fun i => inB t ((rstL n s).getD i 0)) (rstL n s).length
  refine ⟨k, hk, set_ext (can_set k) ht fun a ha => ?_⟩
  rw [can_mem ha]
  constructor
  · rintro (h1 | ⟨i, hi, h1, h2⟩)
    · exact hst _ h1
    · rw [h i hi, h1, inB_iff] at h2; exact h2
  · intro h1
    by_cases h2 : (a : Int) ∈ s
    · exact .inl h2
    · obtain ⟨i, hi, e⟩ := List.getElem_of_mem (rst_mem.2 ⟨a, ha, rfl, h2⟩)
      have e' : (rstL n s).getD i 0 = (a : Int) := by simp [List.getD, hi, e]
      exact .inr ⟨i, hi, e', by rw [h i hi, e', inB_iff]; exact h1⟩
/-- what is found: a set that is not hopeless and needs the fewest changes -/
def LstOk (n : Nat) (G : List (Int × Int)) (s : List Int) (kind : Int) (k : Nat) (o : Option (List Int)) : Prop :=
  match o with
  | none => ∀ i, i < k → hpB n (canL n s i) kind = true
  | some b => (∃ i, i < k ∧ b = canL n s i) ∧ hpB n b kind = false ∧ ∀ i, i < k → hpB n (canL n s i) kind = true ∨ (dutL n G b kind).length ≤ (dutL n G (canL n s i) kind).length
theorem lst_ok (k : Nat) : LstOk n G s kind k (lstK n G s kind k) := by
  induction k with
  | zero => intro i hi; omega
  | succ k ih =>
    rw [lstK_succ]
    unfold betS
    cases hh : hpB n (canL n s k) kind
    · rw [if_neg (by decide)]
      cases ho : lstK n G s kind k with
      | none =>
        rw [ho] at ih
        refine ⟨⟨k, by omega, rfl⟩, hh, fun i hi => ?_⟩
        by_cases e : i = k
        · subst e; exact .inr (Nat.le_refl _)
        · exact .inl (ih i (by omega))
      | some b =>
        rw [ho] at ih
        obtain ⟨⟨j, hj, hb⟩, h2, h3⟩ := ih
        show LstOk n G s kind (k + 1) (if betB n G kind (canL n s k) b = true then some (canL n s k) else some b)
        cases hbt : betB n G kind (canL n s k) b
        · rw [if_neg (by decide)]
          refine ⟨⟨j, by omega, hb⟩, h2, fun i hi => ?_⟩
          by_cases e : i = k
          · subst e
            refine .inr ?_
            unfold betB at hbt
            simp only [Bool.or_eq_false_iff, decide_eq_false_iff_not] at hbt
            omega
          · exact h3 i (by omega)
        · rw [if_pos rfl]
          refine ⟨⟨k, by omega, rfl⟩, hh, fun i hi => ?_⟩
          have hle : (dutL n G (canL n s k) kind).length ≤ (dutL n G b kind).length := by
            unfold betB at hbt
            simp only [Bool.or_eq_true, Bool.and_eq_true, decide_eq_true_iff] at hbt
            omega
          by_cases e : i = k
          · subst e; exact .inr (Nat.le_refl _)
          · exact (h3 i (by omega)).imp id (fun h => Nat.le_trans hle h)
    · rw [if_pos rfl]
      cases ho : lstK n G s kind k with
      | none =>
        rw [ho] at ih
        intro i hi
        by_cases e : i = k
        · subst e; exact hh
        · exact ih i (by omega)
      | some b =>
        rw [ho] at ih
        obtain ⟨⟨j, hj, hb⟩, h2, h3⟩ := ih
        refine ⟨⟨j, by omega, hb⟩, h2, fun i hi => ?_⟩
        by_cases e : i = k
        · subst e; exact .inl hh
        · exact h3 i (by omega)
/-- all nodes are never hopeless -/
theorem hp_all : hpB n (nodesB n fun _ => true) kind = false := by
  unfold hpB
  rcases Nat.eq_zero_or_pos n with h | h
  · subst h; simp
  · have : nodesB n (fun _ => true) ≠ [] := fun e => by
      have : ((0 : Nat) : Int) ∈ nodesB n (fun _ => true) := mem_nodesB.2 ⟨0, h, rfl, rfl⟩
      rw [e] at this; cases this
    simp [this]
theorem lst_some (hs : setB n s = true) : ∃ b, lstK n G s kind (2 ^ (rstL n s).length) = some b ∧ setB n b = true ∧ (∀ x ∈ s, x ∈ b) ∧ hpB n b kind = false ∧
    ∀ t, setB n t = true → (∀ x ∈ s, x ∈ t) → hpB n t kind = true ∨ (dutL n G b kind).length ≤ (dutL n G t kind).length := by
  have h := lst_ok (n := n) (G := G) (s := s) (kind := kind) (2 ^ (rstL n s).length)
  cases ho : lstK n G s kind (2 ^ (rstL n s).length) with
  | none =>
    rw [ho] at h
    obtain ⟨k, hk, e⟩ := can_of (n := n) (s := s) (t := nodesB n fun _ => true) (setB_nodes _ _) fun x hx => by
      have := setB_range hs x hx
      obtain ⟨a, rfl⟩ := Int.eq_ofNat_of_zero_le this.1
      exact mem_nodesB.2 ⟨a, by omega, rfl, rfl⟩
    have := h k hk
    rw [e, hp_all] at this
    cases this
  | some b =>
    rw [ho] at h
    obtain ⟨⟨j, hj, rfl⟩, h2, h3⟩ := h
    refine ⟨_, rfl, can_set j, can_sub hs j, h2, fun t ht hst => ?_⟩
    obtain ⟨k, hk, rfl⟩ := can_of ht hst
    exact h3 k hk
end
end Go.Proofs.YtncimnfhfomddaaDoor
