/- Layer 14 in plain words: the naive sets in their order, and what the search for them may leave out. No program in sight. -/
import Derived.Test.YtncimnfhfomddaaDoorPl14
namespace Go.Proofs.YtncimnfhfomddaaDoor
open Go.ChangeShapes Go.WideShapes Go.ChangeAt Go.RowKit

def confl (l : List (Int × Int)) (i j : Nat) : Prop := att l i j ∨ att l j i
theorem confl.symm {l : List (Int × Int)} {i j : Nat} (h : confl l i j) : confl l j i := h.elim .inr .inl
def attB (l : List (Int × Int)) (i j : Nat) : Bool := decide (((i : Int), (j : Int)) ∈ l)
theorem attB_iff {l : List (Int × Int)} {i j : Nat} : attB l i j = true ↔ att l i j := by unfold attB att; rw [decide_eq_true_iff]
/-- m is a maximal set without an attack between its nodes -/
structure Nav (n : Nat) (l : List (Int × Int)) (m : Nat) : Prop where
  lt : ∀ j, has m j → j < n
  free : ∀ i j, has m i → has m j → ¬ att l i j
  most : ∀ j, j < n → ¬ att l j j → ¬ has m j → ∃ k, has m k ∧ confl l j k
def navB (n : Nat) (l : List (Int × Int)) (m : Nat) : Bool :=
  (List.range n).all fun j => if m.testBit j then (List.range n).all fun k => !(m.testBit k && attB l j k) else attB l j j || (List.range n).any fun k => m.testBit k && (attB l j k || attB l k j)
theorem navB_iff {n : Nat} {l : List (Int × Int)} {m : Nat} (hm : m < 2 ^ n) : navB n l m = true ↔ Nav n l m := by
  unfold navB
  rw [List.all_eq_true]
  constructor
  · intro h
    refine ⟨fun j hj => has_lt hm hj, fun i j hi hj ha => ?_, fun j hj hs hn => ?_⟩
    · have h1 := h i (List.mem_range.2 (has_lt hm hi))
      rw [if_pos (show m.testBit i = true from hi), List.all_eq_true] at h1
      have h2 := h1 j (List.mem_range.2 (has_lt hm hj))
      rw [attB_iff.2 ha, show m.testBit j = true from hj] at h2
      cases h2
    · have h1 := h j (List.mem_range.2 hj)
      rw [if_neg (show ¬ m.testBit j = true from hn), Bool.or_eq_true, attB_iff, List.any_eq_true] at h1
      rcases h1 with h1 | ⟨k, _, h1⟩
      · exact absurd h1 hs
      · rw [Bool.and_eq_true, Bool.or_eq_true, attB_iff, attB_iff] at h1
        exact ⟨k, h1.1, h1.2⟩
  · intro h j hj
    rw [List.mem_range] at hj
    split
    case isTrue hb =>
      rw [List.all_eq_true]
      intro k _
      rw [Bool.not_eq_true', Bool.and_eq_false_iff]
      cases hk : m.testBit k
      · exact .inl rfl
      · right
        rw [Bool.eq_false_iff]
        intro ha
        exact h.free j k hb hk (attB_iff.1 ha)
    case isFalse hb =>
      rw [Bool.or_eq_true, attB_iff, List.any_eq_true]
      rcases Classical.em (att l j j) with hs | hs
      · exact .inl hs
      · obtain ⟨k, hk, hc⟩ := h.most j hj hs hb
        refine .inr ⟨k, List.mem_range.2 (h.lt k hk), ?_⟩
        rw [Bool.and_eq_true, Bool.or_eq_true, attB_iff, attB_iff]
        exact ⟨hk, hc⟩

/-- the sets of the nodes i .. i+k-1 in their order: those with i first -/
def masksL : Nat → Nat → List Nat
  | _, 0 => [0]
  | i, k + 1 => (masksL (i + 1) k).map (fun m => m ||| 1 <<< i) ++ masksL (i + 1) k
theorem has_one {i j : Nat} : has (1 <<< i) j ↔ j = i := by
  unfold has
  rw [Nat.one_shiftLeft, Nat.testBit_two_pow, decide_eq_true_iff]
  exact eq_comm
theorem mem_masks : ∀ (k i m : Nat), m ∈ masksL i k ↔ ∀ j, has m j → i ≤ j ∧ j < i + k
  | 0, i, m => by
    unfold masksL
    rw [List.mem_singleton]
    constructor
    · rintro rfl j hj; exact absurd hj has_zero
    · intro h
      refine has_ext fun j => ⟨fun hj => ?_, fun hj => absurd hj has_zero⟩
      have := h j hj; omega
  | k + 1, i, m => by
    unfold masksL
    rw [List.mem_append, List.mem_map]
    constructor
    · rintro (⟨x, hx, rfl⟩ | hx) j hj
      · rcases has_or.1 hj with h | h
        · have := (mem_masks k (i + 1) x).1 hx j h; omega
        · have := has_one.1 h; omega
      · have := (mem_masks k (i + 1) m).1 hx j hj; omega
    · intro h
      rcases Classical.em (has m i) with hi | hi
      · refine .inl ⟨m &&& (m - 0) ^^^ (1 <<< i), (mem_masks k (i + 1) _).2 fun j hj => ?_, ?_⟩
        · have hjm : (m ^^^ (1 <<< i)).testBit j = true := by
            have : m &&& (m - 0) = m := by rw [Nat.sub_zero, Nat.and_self]
            rw [this] at hj; exact hj
          rw [Nat.testBit_xor] at hjm
          by_cases e : j = i
          · subst e
            rw [show m.testBit j = true from hi, show (1 <<< j).testBit j = true from has_one.2 rfl] at hjm
            cases hjm
          · have h1 : (1 <<< i).testBit j = false := by
              rw [Bool.eq_false_iff]; exact fun h => e (has_one.1 h)
            rw [h1, Bool.xor_false] at hjm
            have := h j hjm; omega
        · have : m &&& (m - 0) = m := by rw [Nat.sub_zero, Nat.and_self]
          rw [this]
          refine has_ext fun j => ?_
          unfold has
          rw [Nat.testBit_or, Nat.testBit_xor]
          by_cases e : j = i
          · subst e
            rw [show m.testBit j = true from hi, show (1 <<< j).testBit j = true from has_one.2 rfl]; simp
          · have h1 : (1 <<< i).testBit j = false := by
              rw [Bool.eq_false_iff]; exact fun h => e (has_one.1 h)
            rw [h1]; simp
      · refine .inr ((mem_masks k (i + 1) m).2 fun j hj => ?_)
        have h1 := h j hj
        have : j ≠ i := fun e => hi (e ▸ hj)
        omega
/-- a stands before b: at the first node in which they differ, a has it -/
def lexM (a b : Nat) : Prop := ∃ i, (∀ j, j < i → (has a j ↔ has b j)) ∧ has a i ∧ ¬ has b i
theorem lexM_asymm {a b : Nat} (h : lexM a b) : ¬ lexM b a := by
  rintro ⟨j, h1, h2, h3⟩
  obtain ⟨i, k1, k2, k3⟩ := h
  rcases Nat.lt_trichotomy i j with h | h | h
  · exact k3 ((h1 i h).2 k2)
  · subst h; exact h3 k2
  · exact h3 ((k1 j h).2 h2)
theorem masks_sorted : ∀ (k i : Nat), (masksL i k).Pairwise lexM
  | 0, _ => List.pairwise_singleton ..
  | k + 1, i => by
    unfold masksL
    have hlow : ∀ x ∈ masksL (i + 1) k, ∀ j, j ≤ i → ¬ has x j := fun x hx j hj h => by
      have := (mem_masks k (i + 1) x).1 hx j h; omega
    refine List.pairwise_append.2 ⟨?_, masks_sorted k (i + 1), fun a ha b hb => ?_⟩
    · rw [List.pairwise_map]
      refine (masks_sorted k (i + 1)).imp_of_mem fun {a b} ha hb hab => ?_
      obtain ⟨t, h1, h2, h3⟩ := hab
      have ht := (mem_masks k (i + 1) a).1 ha t h2
      exact ⟨t, fun j hj => by rw [has_or, has_or, h1 j hj], has_or.2 (.inl h2), fun h => (has_or.1 h).elim h3 fun e => by have := has_one.1 e; omega⟩
    · rw [List.mem_map] at ha
      obtain ⟨x, hx, rfl⟩ := ha
      exact ⟨i, fun j hj => by
        rw [has_or, has_one]
        exact ⟨fun h => h.elim (fun h => absurd h (hlow x hx j (by omega))) (fun e => by omega), fun h => absurd h (hlow b hb j (by omega))⟩, has_or.2 (.inr (has_one.2 rfl)), hlow b hb i (Nat.le_refl _)⟩
theorem masks_lt {n m : Nat} : m ∈ masksL 0 n ↔ m < 2 ^ n := by
  rw [mem_masks]
  constructor
  · intro h
    rcases Nat.lt_or_ge m (2 ^ n) with hl | hg
    · exact hl
    · obtain ⟨i, hi, hb⟩ := Nat.exists_ge_and_testBit_of_ge_two_pow hg
      have := h i hb; omega
  · intro h j hj; have := has_lt h hj; omega

/-- the naive sets that have all nodes of s, and others of r alone -/
def navD (n : Nat) (l : List (Int × Int)) (s r : Nat) : List Nat := (masksL 0 n).filter fun m => navB n l m && (s &&& m == s && m &&& (s ||| r) == m)
theorem and_subB {a b : Nat} : (a &&& b == a) = true ↔ sub a b := by
  rw [beq_iff_eq]
  constructor
  · intro h j hj; rw [← h] at hj; exact (has_and.1 hj).2
  · intro h; exact has_ext fun j => ⟨fun hj => (has_and.1 hj).1, fun hj => has_and.2 ⟨hj, h j hj⟩⟩
section
variable {n : Nat} {l : List (Int × Int)} {s r left m : Nat}
theorem Nav.lt2 (h : Nav n l m) : m < 2 ^ n := masks_lt.1 ((mem_masks n 0 m).2 fun j hj => by have := h.lt j hj; omega)
theorem mem_nav : m ∈ navD n l s r ↔ Nav n l m ∧ sub s m ∧ ∀ j, has m j → has s j ∨ has r j := by
  unfold navD
  rw [List.mem_filter, Bool.and_eq_true, Bool.and_eq_true, and_subB, and_subB, masks_lt]
  have e : sub m (s ||| r) ↔ ∀ j, has m j → has s j ∨ has r j := by
    unfold sub; exact ⟨fun h j hj => has_or.1 (h j hj), fun h j hj => has_or.2 (h j hj)⟩
  rw [e]
  constructor
  · rintro ⟨h1, h2, h3⟩; exact ⟨(navB_iff h1).1 h2, h3⟩
  · rintro ⟨h1, h2⟩; exact ⟨h1.lt2, (navB_iff h1.lt2).2 h1, h2⟩
theorem nav_sorted (n : Nat) (l : List (Int × Int)) (s r : Nat) : (navD n l s r).Pairwise lexM := (masks_sorted n 0).filter _
/-- what the search for naive sets knows -/
structure Cho (n : Nat) (l : List (Int × Int)) (s r left : Nat) : Prop where
  lt : ∀ j, has s j ∨ has r j ∨ has left j → j < n
  free : ∀ i j, has s i → has s j → ¬ att l i j
  off : ∀ i j, has r i ∨ has left i → has s j → ¬ confl l i j
  self : ∀ i, has r i ∨ has left i → ¬ att l i i
  out : ∀ i, has r i ∨ has left i → ¬ has s i
  rl : ∀ i, has r i → ¬ has left i
  all : ∀ j, j < n → ¬ att l j j → has s j ∨ has r j ∨ has left j ∨ ∃ k, has s k ∧ confl l j k
theorem Cho.start (hr : ∀ j, has r j ↔ j < n ∧ ¬ att l j j) : Cho n l 0 r 0 where
  lt := fun j h => by
    rcases h with h | h | h
    · exact absurd h has_zero
    · exact ((hr j).1 h).1
    · exact absurd h has_zero
  free := fun i _ h => absurd h has_zero
  off := fun _ j _ h => absurd h has_zero
  self := fun i h => h.elim (fun h => ((hr i).1 h).2) (fun h => absurd h has_zero)
  out := fun _ _ h => has_zero h
  rl := fun _ _ h => has_zero h
  all := fun j h1 h2 => .inr (.inl ((hr j).2 ⟨h1, h2⟩))
/-- a node that was left out and is in conflict with none that can be added: there is no naive set -/
theorem Cho.dead (h : Cho n l s r left) {i : Nat} (hi : has left i) (hc : ∀ j, has r j → ¬ confl l i j) : navD n l s r = [] := by
  rw [List.eq_nil_iff_forall_not_mem]
  intro m hm
  obtain ⟨h1, _, h3⟩ := mem_nav.1 hm
  have hmi : ¬ has m i := fun hmi => (h3 i hmi).elim (h.out i (.inr hi)) (fun hr => h.rl i hr hi)
  obtain ⟨k, hk, hck⟩ := h1.most i (h.lt i (.inr (.inr hi))) (h.self i (.inr hi)) hmi
  rcases h3 k hk with hs | hr
  · exact h.off i k (.inr hi) hs hck
  · exact hc k hr hck
theorem Cho.leaf (h : Cho n l s 0 0) : navD n l s 0 = [s] := by
  refine sorted_extR lexM_asymm (nav_sorted ..) (List.pairwise_singleton ..) fun m => ?_
  rw [mem_nav, List.mem_singleton]
  constructor
  · rintro ⟨_, h2, h3⟩
    exact has_ext fun j => ⟨fun hj => (h3 j hj).elim id fun h => absurd h has_zero, h2 j⟩
  · rintro rfl
    refine ⟨⟨fun j hj => h.lt j (.inl hj), h.free, fun j h1 h2 h3 => ?_⟩, fun _ h => h, fun _ h => .inl h⟩
    rcases h.all j h1 h2 with h4 | h4 | h4 | h4
    · exact absurd h4 h3
    · exact absurd h4 has_zero
    · exact absurd h4 has_zero
    · exact h4
theorem Cho.with (h : Cho n l s r left) {i r' left' : Nat} (hi : has r i) (hr : ∀ j, has r' j ↔ has r j ∧ j ≠ i ∧ ¬ confl l i j) (hl : ∀ j, has left' j ↔ has left j ∧ ¬ confl l i j) : Cho n l (s ||| 1 <<< i) r' left' where
  lt := fun j hj => by
    rcases hj with hj | hj | hj
    · rcases has_or.1 hj with hj | hj
      · exact h.lt j (.inl hj)
      · have := has_one.1 hj; subst this; exact h.lt j (.inr (.inl hi))
    · exact h.lt j (.inr (.inl ((hr j).1 hj).1))
    · exact h.lt j (.inr (.inr ((hl j).1 hj).1))
  free := fun a b ha hb => by
    rcases has_or.1 ha with ha1 | ha1 <;> rcases has_or.1 hb with hb1 | hb1
    · exact h.free a b ha1 hb1
    · have e1 := has_one.1 hb1; subst e1; exact fun e => h.off b a (.inl hi) ha1 (.inr e)
    · have e1 := has_one.1 ha1; subst e1; exact fun e => h.off a b (.inl hi) hb1 (.inl e)
    · have e1 := has_one.1 ha1; have e2 := has_one.1 hb1; subst e1; subst e2; exact h.self _ (.inl hi)
  off := fun a b ha hb => by
    have ha' : (has r a ∨ has left a) ∧ ¬ confl l i a := ha.elim (fun x => ⟨.inl ((hr a).1 x).1, ((hr a).1 x).2.2⟩) (fun x => ⟨.inr ((hl a).1 x).1, ((hl a).1 x).2⟩)
    rcases has_or.1 hb with hb | hb
    · exact h.off a b ha'.1 hb
    · have := has_one.1 hb; subst this; exact fun e => ha'.2 e.symm
  self := fun a ha => h.self a (ha.elim (fun x => .inl ((hr a).1 x).1) (fun x => .inr ((hl a).1 x).1))
  out := fun a ha hs => by
    rcases has_or.1 hs with hs | hs
    · exact h.out a (ha.elim (fun x => .inl ((hr a).1 x).1) (fun x => .inr ((hl a).1 x).1)) hs
    · have := has_one.1 hs; subst this
      rcases ha with x | x
      · exact ((hr a).1 x).2.1 rfl
      · exact h.rl a hi ((hl a).1 x).1
  rl := fun a ha hb => h.rl a ((hr a).1 ha).1 ((hl a).1 hb).1
  all := fun j h1 h2 => by
    rcases Classical.em (confl l i j) with hc | hc
    · exact .inr (.inr (.inr ⟨i, has_or.2 (.inr (has_one.2 rfl)), hc.symm⟩))
    · rcases h.all j h1 h2 with h3 | h3 | h3 | ⟨k, hk, hck⟩
      · exact .inl (has_or.2 (.inl h3))
      · by_cases e : j = i
        · subst e; exact .inl (has_or.2 (.inr (has_one.2 rfl)))
        · exact .inr (.inl ((hr j).2 ⟨h3, e, hc⟩))
      · exact .inr (.inr (.inl ((hl j).2 ⟨h3, hc⟩)))
      · exact .inr (.inr (.inr ⟨k, has_or.2 (.inl hk), hck⟩))
theorem Cho.without (h : Cho n l s r left) {i r' : Nat} (hi : has r i) (hr : ∀ j, has r' j ↔ has r j ∧ j ≠ i) : Cho n l s r' (left ||| 1 <<< i) := by
  have hl : ∀ j, has (left ||| 1 <<< i) j → has r j ∨ has left j := fun j hj => (has_or.1 hj).elim .inr fun e => by have := has_one.1 e; subst this; exact .inl hi
  have hb : ∀ j, has r' j ∨ has (left ||| 1 <<< i) j → has r j ∨ has left j := fun j hj => hj.elim (fun x => .inl ((hr j).1 x).1) (hl j)
  exact {
    lt := fun j hj => hj.elim (fun x => h.lt j (.inl x)) fun x => h.lt j (.inr (hb j x))
    free := h.free
    off := fun a b ha => h.off a b (hb a ha)
    self := fun a ha => h.self a (hb a ha)
    out := fun a ha => h.out a (hb a ha)
    rl := fun a ha hb => (has_or.1 hb).elim (h.rl a ((hr a).1 ha).1) fun e => ((hr a).1 ha).2 (has_one.1 e)
    all := fun j h1 h2 => by
      rcases h.all j h1 h2 with h3 | h3 | h3 | h3
      · exact .inl h3
      · by_cases e : j = i
        · subst e; exact .inr (.inr (.inl (has_or.2 (.inr (has_one.2 rfl)))))
        · exact .inr (.inl ((hr j).2 ⟨h3, e⟩))
      · exact .inr (.inr (.inl (has_or.2 (.inl h3))))
      · exact .inr (.inr (.inr h3)) }
/-- the sets with the first node that can be added, then those without it -/
theorem Cho.split (h : Cho n l s r left) {i r1 r2 : Nat} (hi : has r i) (hlow : ∀ j, j < i → ¬ has r j) (hr1 : ∀ j, has r1 j ↔ has r j ∧ j ≠ i ∧ ¬ confl l i j) (hr2 : ∀ j, has r2 j ↔ has r j ∧ j ≠ i) :
    navD n l s r = navD n l (s ||| 1 <<< i) r1 ++ navD n l s r2 := by
  have m1 : ∀ m, m ∈ navD n l (s ||| 1 <<< i) r1 ↔ m ∈ navD n l s r ∧ has m i := fun m => by
    rw [mem_nav, mem_nav]
    constructor
    · rintro ⟨h1, h2, h3⟩
      refine ⟨⟨h1, fun j hj => h2 j (has_or.2 (.inl hj)), fun j hj => ?_⟩, h2 i (has_or.2 (.inr (has_one.2 rfl)))⟩
      rcases h3 j hj with h4 | h4
      · rcases has_or.1 h4 with h4 | h4
        · exact .inl h4
        · have := has_one.1 h4; subst this; exact .inr hi
      · exact .inr ((hr1 j).1 h4).1
    · rintro ⟨⟨h1, h2, h3⟩, h4⟩
      refine ⟨h1, fun j hj => (has_or.1 hj).elim (h2 j) fun e => by have := has_one.1 e; subst this; exact h4, fun j hj => ?_⟩
      rcases h3 j hj with h5 | h5
      · exact .inl (has_or.2 (.inl h5))
      · by_cases e : j = i
        · subst e; exact .inl (has_or.2 (.inr (has_one.2 rfl)))
        · exact .inr ((hr1 j).2 ⟨h5, e, fun hc => hc.elim (h1.free i j h4 hj) (h1.free j i hj h4)⟩)
  have m2 : ∀ m, m ∈ navD n l s r2 ↔ m ∈ navD n l s r ∧ ¬ has m i := fun m => by
    rw [mem_nav, mem_nav]
    constructor
    · rintro ⟨h1, h2, h3⟩
      refine ⟨⟨h1, h2, fun j hj => (h3 j hj).imp id fun x => ((hr2 j).1 x).1⟩, fun hm => ?_⟩
      rcases h3 i hm with h4 | h4
      · exact h.out i (.inl hi) h4
      · exact ((hr2 i).1 h4).2 rfl
    · rintro ⟨⟨h1, h2, h3⟩, h4⟩
      exact ⟨h1, h2, fun j hj => (h3 j hj).imp id fun x => (hr2 j).2 ⟨x, fun e => h4 (e ▸ hj)⟩⟩
  refine sorted_extR lexM_asymm (nav_sorted ..) (List.pairwise_append.2 ⟨nav_sorted .., nav_sorted .., fun a ha b hb => ?_⟩) fun m => ?_
  · obtain ⟨ha1, ha2⟩ := (m1 a).1 ha
    obtain ⟨hb1, hb2⟩ := (m2 b).1 hb
    obtain ⟨_, a2, a3⟩ := mem_nav.1 ha1
    obtain ⟨_, b2, b3⟩ := mem_nav.1 hb1
    have hsame : ∀ {x : Nat}, sub s x → (∀ j, has x j → has s j ∨ has r j) → ∀ j, j < i → (has x j ↔ has s j) := fun {x} h1 h2 j hj => ⟨fun h => (h2 j h).elim id fun hr => absurd hr (hlow j hj), h1 j⟩
    exact ⟨i, fun j hj => by rw [hsame a2 a3 j hj, hsame b2 b3 j hj], ha2, hb2⟩
  · rw [List.mem_append, m1, m2]
    rcases Classical.em (has m i) with e | e <;> simp [e]
/-- .. none without it, if it is in no conflict -/
theorem Cho.alone (h : Cho n l s r left) {i r2 : Nat} (hi : has r i) (hc : ∀ j, ¬ confl l i j) (hr2 : ∀ j, has r2 j ↔ has r j ∧ j ≠ i) : navD n l s r2 = [] :=
  (h.without hi hr2).dead (has_or.2 (.inr (has_one.2 rfl))) fun j _ => hc j
/-- all naive sets -/
def navL (n : Nat) (l : List (Int × Int)) : List Nat := (masksL 0 n).filter (navB n l)
theorem mem_navL : m ∈ navL n l ↔ Nav n l m := by
  unfold navL
  rw [List.mem_filter, masks_lt]
  exact ⟨fun h => (navB_iff h.1).1 h.2, fun h => ⟨h.lt2, (navB_iff h.lt2).2 h⟩⟩
theorem nav_all (hr : ∀ j, has r j ↔ j < n ∧ ¬ att l j j) : navD n l 0 r = navL n l :=
  sorted_extR lexM_asymm (nav_sorted ..) ((masks_sorted n 0).filter _) fun m => by
    show _ ↔ m ∈ navL n l
    rw [mem_nav, mem_navL]
    exact ⟨fun h => h.1, fun h => ⟨h, fun j hj => absurd hj has_zero, fun j hj => .inr ((hr j).2 ⟨h.lt j hj, h.free j j hj hj⟩)⟩⟩
end

/-- the reference's search: the nodes from i on may be added -/
def fromN (n i : Nat) : Nat := minusN (allN n) (allN i)
theorem has_fromN {n i j : Nat} (hn : n ≤ 40) (hi : i ≤ n) : has (fromN n i) j ↔ i ≤ j ∧ j < n := by
  unfold fromN
  rw [has_minusN (u64_of hn (allN_lt n)) (u64_of (Nat.le_trans hi hn) (allN_lt i)), has_allN, has_allN]
  omega
section
variable {n : Nat} {l : List (Int × Int)} {s r m : Nat}
theorem nav_split0 {i r2 : Nat} (hi : has r i) (hsi : ¬ has s i) (hlow : ∀ j, j < i → ¬ has r j) (hr2 : ∀ j, has r2 j ↔ has r j ∧ j ≠ i) :
    navD n l s r = navD n l (s ||| 1 <<< i) r2 ++ navD n l s r2 := by
  have m1 : ∀ m, m ∈ navD n l (s ||| 1 <<< i) r2 ↔ m ∈ navD n l s r ∧ has m i := fun m => by
    rw [mem_nav, mem_nav]
    constructor
    · rintro ⟨h1, h2, h3⟩
      refine ⟨⟨h1, fun j hj => h2 j (has_or.2 (.inl hj)), fun j hj => ?_⟩, h2 i (has_or.2 (.inr (has_one.2 rfl)))⟩
      rcases h3 j hj with h4 | h4
      · rcases has_or.1 h4 with h4 | h4
        · exact .inl h4
        · have := has_one.1 h4; subst this; exact .inr hi
      · exact .inr ((hr2 j).1 h4).1
    · rintro ⟨⟨h1, h2, h3⟩, h4⟩
      refine ⟨h1, fun j hj => (has_or.1 hj).elim (h2 j) fun e => by have := has_one.1 e; subst this; exact h4, fun j hj => ?_⟩
      rcases h3 j hj with h5 | h5
      · exact .inl (has_or.2 (.inl h5))
      · by_cases e : j = i
        · subst e; exact .inl (has_or.2 (.inr (has_one.2 rfl)))
        · exact .inr ((hr2 j).2 ⟨h5, e⟩)
  have m2 : ∀ m, m ∈ navD n l s r2 ↔ m ∈ navD n l s r ∧ ¬ has m i := fun m => by
    rw [mem_nav, mem_nav]
    constructor
    · rintro ⟨h1, h2, h3⟩
      refine ⟨⟨h1, h2, fun j hj => (h3 j hj).imp id fun x => ((hr2 j).1 x).1⟩, fun hm => ?_⟩
      rcases h3 i hm with h4 | h4
      · exact hsi h4
      · exact ((hr2 i).1 h4).2 rfl
    · rintro ⟨⟨h1, h2, h3⟩, h4⟩
      exact ⟨h1, h2, fun j hj => (h3 j hj).imp id fun x => (hr2 j).2 ⟨x, fun e => h4 (e ▸ hj)⟩⟩
  refine sorted_extR lexM_asymm (nav_sorted ..) (List.pairwise_append.2 ⟨nav_sorted .., nav_sorted .., fun a ha b hb => ?_⟩) fun m => ?_
  · obtain ⟨ha1, ha2⟩ := (m1 a).1 ha
    obtain ⟨hb1, hb2⟩ := (m2 b).1 hb
    obtain ⟨_, a2, a3⟩ := mem_nav.1 ha1
    obtain ⟨_, b2, b3⟩ := mem_nav.1 hb1
    have hsame : ∀ {x : Nat}, sub s x → (∀ j, has x j → has s j ∨ has r j) → ∀ j, j < i → (has x j ↔ has s j) := fun {x} h1 h2 j hj => ⟨fun h => (h2 j h).elim id fun hr => absurd hr (hlow j hj), h1 j⟩
    exact ⟨i, fun j hj => by rw [hsame a2 a3 j hj, hsame b2 b3 j hj], ha2, hb2⟩
  · rw [List.mem_append, m1, m2]
    rcases Classical.em (has m i) with e | e <;> simp [e]
theorem nav_none {a b : Nat} (ha : has s a) (hb : has s b) (h : att l a b) : navD n l s r = [] := by
  rw [List.eq_nil_iff_forall_not_mem]
  intro m hm
  obtain ⟨h1, h2, _⟩ := mem_nav.1 hm
  exact h1.free a b (h2 a ha) (h2 b hb) h
theorem nav_leaf : navD n l s 0 = if navB n l s = true ∧ s < 2 ^ n then [s] else [] := by
  refine sorted_extR lexM_asymm (nav_sorted ..) ?_ fun m => ?_
  · split
    · exact List.pairwise_singleton ..
    · exact List.Pairwise.nil
  · rw [mem_nav]
    constructor
    · rintro ⟨h1, h2, h3⟩
      have : m = s := has_ext fun j => ⟨fun hj => (h3 j hj).elim id fun h => absurd h has_zero, h2 j⟩
      subst this
      rw [if_pos ⟨(navB_iff h1.lt2).2 h1, h1.lt2⟩]; simp
    · intro hm
      split at hm
      case isTrue h =>
        rw [List.mem_singleton] at hm
        subst hm
        exact ⟨(navB_iff h.2).1 h.1, fun _ h => h, fun _ h => .inl h⟩
      case isFalse => cases hm
theorem nodes_add {i : Nat} (hi : i < n) (hs : ∀ j, has s j → j < i) : nodesB n (s ||| 1 <<< i).testBit = nodesB n s.testBit ++ [(i : Int)] := by
  have h1 : ∀ p : Nat → Bool, (∀ j, i < j → p j = false) → nodesB n p = nodesB (i + 1) p := fun p hp => nodesB_more (by omega) fun j hj => hp j (by omega)
  have h2 : ∀ j, i ≤ j → s.testBit j = false := fun j hj => by
    rw [Bool.eq_false_iff]; intro h; have := hs j h; omega
  rw [h1 _ fun j hj => by
    rw [Nat.testBit_or, h2 j (by omega), Bool.false_or, Bool.eq_false_iff]
    intro h; have := has_one.1 h; omega, h1 _ fun j hj => h2 j (by omega), nodesB_succ, nodesB_succ]
  have e1 : nodesB i (s ||| 1 <<< i).testBit = nodesB i s.testBit := nodesB_congr fun j hj => by
    rw [Nat.testBit_or]
    have : (1 <<< i).testBit j = false := by rw [Bool.eq_false_iff]; intro h; have := has_one.1 h; omega
    rw [this, Bool.or_false]
  have e2 : (s ||| 1 <<< i).testBit i = true := has_or.2 (.inr (has_one.2 rfl))
  rw [e1, e2, h2 i (Nat.le_refl _)]
  simp
end
/-- at most m of them -/
def capL {α : Type} (m : Nat) (f a : List α) : List α := (f ++ a).take m
theorem capL_nil {α : Type} {m : Nat} {f : List α} (h : f.length ≤ m) : capL m f [] = f := by unfold capL; rw [List.append_nil, List.take_of_length_le h]
theorem capL_cap {α : Type} {m : Nat} {f a b : List α} : capL m (capL m f a) b = capL m f (a ++ b) := by
  unfold capL
  rw [← List.append_assoc]
  generalize f ++ a = x
  rw [List.take_append, List.take_append]
  rw [List.take_take, Nat.min_self, List.length_take]
  rcases Nat.le_total m x.length with h | h
  · rw [Nat.min_eq_left h, Nat.sub_self, Nat.sub_eq_zero_of_le h]
  · rw [Nat.min_eq_right h]
theorem capL_full {α : Type} {m : Nat} {f a : List α} (h : f.length = m) : capL m f a = f := by
  unfold capL; subst h; simp
theorem capL_one {α : Type} {m : Nat} {f : List α} {a : α} (h : f.length < m) : capL m f [a] = f ++ [a] := by
  unfold capL; rw [List.take_of_length_le]; simp; omega
theorem capL_len {α : Type} {m : Nat} {f a : List α} : (capL m f a).length ≤ m := by unfold capL; rw [List.length_take]; exact Nat.min_le_left ..
end Go.Proofs.YtncimnfhfomddaaDoor
