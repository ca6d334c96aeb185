/- Attack graphs as relations on small numbers; what the masks mean. Nothing of the program. -/
import Derived.Test.YtiljbfeipfdmdaaDoorBits
namespace Go.Proofs.YtiljbfeipfdmdaaDoor

/-- the pairs lie among the nodes below n -/
def InR (n : Nat) (l : List (Int × Int)) : Prop := n ≤ 40 ∧ l.length ≤ 100000 ∧ ∀ p ∈ l, 0 ≤ p.1 ∧ p.1 < n ∧ 0 ≤ p.2 ∧ p.2 < n
theorem attN_u64 {n : Nat} {l : List (Int × Int)} (h : InR n l) (m : Nat) : attN l m < 2 ^ n := attN_lt_pow l m n fun p hp => by have := h.2.2 p hp; omega
theorem u64_of {n m : Nat} (hn : n ≤ 40) (h : m < 2 ^ n) : m < 18446744073709551616 := Nat.lt_of_lt_of_le h (pow_le_u64 (by omega))


/-- a attacks b -/
def att (l : List (Int × Int)) (a b : Nat) : Prop := ((a : Int), (b : Int)) ∈ l
instance (l : List (Int × Int)) (a b : Nat) : Decidable (att l a b) := by unfold att; infer_instance
/-- a set of numbers: those whose bit is set -/
def has (m j : Nat) : Prop := m.testBit j = true
instance (m j : Nat) : Decidable (has m j) := by unfold has; infer_instance
theorem not_has {m j : Nat} : ¬ has m j ↔ m.testBit j = false := by unfold has; cases m.testBit j <;> simp
theorem has_ext {m k : Nat} (h : ∀ j, has m j ↔ has k j) : m = k := by
  apply Nat.eq_of_testBit_eq
  intro j
  have := h j
  unfold has at this
  rw [Bool.eq_iff_iff]; exact this
theorem has_lt {n m j : Nat} (hm : m < 2 ^ n) (h : has m j) : j < n := by
  rcases Nat.lt_or_ge j n with hlt | hge
  · exact hlt
  · unfold has at h
    rw [Nat.testBit_lt_two_pow (Nat.lt_of_lt_of_le hm (Nat.pow_le_pow_right (by omega) hge))] at h; cases h

theorem att_lt {n : Nat} {l : List (Int × Int)} (hv : InR n l) {a b : Nat} (h : att l a b) : a < n ∧ b < n := by
  have := hv.2.2 _ h; simp at this; omega
theorem has_attN {n : Nat} {l : List (Int × Int)} (hv : InR n l) (m j : Nat) : has (attN l m) j ↔ ∃ a, has m a ∧ att l a j := by
  unfold has
  rw [testBit_attN, List.any_eq_true]
  constructor
  · rintro ⟨p, hp, h⟩
    simp only [Bool.and_eq_true, decide_eq_true_eq] at h
    have h1 := hv.2.2 p hp
    refine ⟨p.1.toNat, h.1, ?_⟩
    have e1 : ((p.1.toNat : Nat) : Int) = p.1 := by omega
    have e2 : ((j : Nat) : Int) = p.2 := by omega
    unfold att; rw [e1, e2]; exact hp
  · rintro ⟨a, ha, h⟩
    exact ⟨_, h, by simp [ha]⟩
theorem has_allN {n j : Nat} : has (allN n) j ↔ j < n := by unfold has; rw [testBit_allN]; simp
theorem has_minusN {a b j : Nat} (ha : a < 18446744073709551616) (hb : b < 18446744073709551616) : has (minusN a b) j ↔ has a j ∧ ¬ has b j := by
  unfold has; rw [testBit_minusN a b j hb ha]; simp
theorem has_and {a b j : Nat} : has (a &&& b) j ↔ has a j ∧ has b j := by unfold has; rw [Nat.testBit_and]; simp
theorem has_or {a b j : Nat} : has (a ||| b) j ↔ has a j ∨ has b j := by unfold has; rw [Nat.testBit_or]; simp
theorem has_zero {j : Nat} : ¬ has 0 j := by unfold has; simp
theorem stepN_lt (n : Nat) (l : List (Int × Int)) (m : Nat) : stepN n l m < 2 ^ n := Nat.lt_of_le_of_lt (minusN_le _ _) (allN_lt n)

/-- the set defends j -/
def defends (l : List (Int × Int)) (m j : Nat) : Prop := ∀ a, att l a j → ∃ b, has m b ∧ att l b a
theorem has_stepN {n : Nat} {l : List (Int × Int)} (hv : InR n l) (m j : Nat) : has (stepN n l m) j ↔ j < n ∧ defends l m j := by
  have hn := hv.1
  have hal := u64_of hn (allN_lt n)
  have ha1 := u64_of hn (attN_u64 hv m)
  have ha2 := u64_of hn (attN_u64 hv (minusN (allN n) (attN l m)))
  unfold stepN
  rw [has_minusN hal ha2, has_allN, has_attN hv]
  constructor
  · rintro ⟨h1, h2⟩
    refine ⟨h1, fun a ha => ?_⟩
    rcases Classical.em (has (attN l m) a) with h3 | h3
    · exact (has_attN hv m a).1 h3
    · exact absurd ⟨a, (has_minusN hal ha1).2 ⟨has_allN.2 (att_lt hv ha).1, h3⟩, ha⟩ h2
  · rintro ⟨h1, h2⟩
    refine ⟨h1, ?_⟩
    rintro ⟨a, h3, h4⟩
    obtain ⟨h5, h6⟩ := (has_minusN hal ha1).1 h3
    exact h6 ((has_attN hv m a).2 (h2 a h4))

def sub (a b : Nat) : Prop := ∀ j, has a j → has b j
theorem sub_le {a b : Nat} (h : sub a b) : a ≤ b := by
  have : a &&& b = a := by
    apply has_ext
    intro j
    rw [has_and]
    exact ⟨fun h => h.1, fun h' => ⟨h', h j h'⟩⟩
  rw [← this]; exact Nat.and_le_right
theorem sub_antisymm {a b : Nat} (h : sub a b) (k : sub b a) : a = b := has_ext fun j => ⟨h j, k j⟩
theorem defends_mono {l : List (Int × Int)} {a b j : Nat} (h : sub a b) (hd : defends l a j) : defends l b j := fun c hc => by
  obtain ⟨d, h1, h2⟩ := hd c hc
  exact ⟨d, h _ h1, h2⟩
theorem stepN_mono {n : Nat} {l : List (Int × Int)} (hv : InR n l) {a b : Nat} (h : sub a b) : sub (stepN n l a) (stepN n l b) := fun j hj => by
  rw [has_stepN hv] at hj ⊢
  exact ⟨hj.1, defends_mono h hj.2⟩

/-- a function applied k times -/
def itN (f : Nat → Nat) : Nat → Nat → Nat
  | 0, m => m
  | k + 1, m => f (itN f k m)
theorem itN_fix {f : Nat → Nat} {k m : Nat} (h : f (itN f k m) = itN f k m) : ∀ d, itN f (k + d) m = itN f k m
  | 0 => rfl
  | d + 1 => by rw [← Nat.add_assoc]; show f (itN f (k + d) m) = _; rw [itN_fix h d, h]
theorem itN_at {f : Nat → Nat} {k m K : Nat} (h : f (itN f k m) = itN f k m) (hk : k ≤ K) : itN f K m = itN f k m := by
  obtain ⟨d, rfl⟩ := Nat.exists_eq_add_of_le hk
  exact itN_fix h d
/-- what Grow and Shrink come to -/
def growN (n : Nat) (l : List (Int × Int)) (m : Nat) : Nat := itN (stepN n l) (2 ^ n) m
def shrinkN (n : Nat) (l : List (Int × Int)) (m : Nat) : Nat := itN (fun m => m &&& stepN n l m) (2 ^ n) m
end Go.Proofs.YtiljbfeipfdmdaaDoor
