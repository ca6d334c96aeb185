/- The plain law of the statements of layer 13: unions, the fundamental lemma, the least complete set. No program in sight. -/
import Derived.Test.YtiljbfeipfdmdaaDoorSets
namespace Go.Proofs.YtiljbfeipfdmdaaDoor
open Go.ChangeShapes Go.WideShapes Go.ChangeAt Go.RowKit

theorem soundB_iff {n : Nat} {l : List (Int × Int)} {m : Nat} (hv : InR n l) (hm : m < 2 ^ n) : soundB n l m = true ↔ freeB l m = true ∧ sub m (stepN n l m) := by
  unfold soundB
  rw [Bool.and_eq_true, beq_iff_eq, sub_iff_minus hv.1 hm (stepN_lt n l m)]
theorem complB_iff {n : Nat} {l : List (Int × Int)} {m : Nat} : complB n l m = true ↔ soundB n l m = true ∧ stepN n l m = m := by
  unfold complB
  rw [Bool.and_eq_true, beq_iff_eq]

/-- a stable set is complete -/
theorem compl_of_stab {n : Nat} {l : List (Int × Int)} {m : Nat} (hv : InR n l) (hm : m < 2 ^ n) (h : stabB n l m = true) : complB n l m = true := by
  unfold stabB at h
  rw [Bool.and_eq_true, beq_iff_eq] at h
  obtain ⟨hf, hr⟩ := h
  have free := (freeB_iff hv m).1 hf
  have all : ∀ j, j < n → has m j ∨ ∃ a, has m a ∧ att l a j := fun j hj => by
    have h1 : has (m ||| attN l m) j := by rw [hr]; exact has_allN.2 hj
    rcases has_or.1 h1 with h1 | h1
    · exact .inl h1
    · exact .inr ((has_attN hv m j).1 h1)
  have h1 : sub m (stepN n l m) := fun j hj => by
    rw [has_stepN hv]
    refine ⟨has_lt hm hj, fun a ha => ?_⟩
    rcases all a (att_lt hv ha).1 with h2 | h2
    · exact absurd ha (free a j h2 hj)
    · exact h2
  refine complB_iff.2 ⟨(soundB_iff hv hm).2 ⟨hf, h1⟩, sub_antisymm (fun j hj => ?_) h1⟩
  rw [has_stepN hv] at hj
  rcases all j hj.1 with h2 | ⟨b, hb, hbj⟩
  · exact h2
  · obtain ⟨c, hc, hcb⟩ := hj.2 b hbj
    exact absurd hcb (free c b hc hb)

theorem or_lt {n a b : Nat} (ha : a < 2 ^ n) (hb : b < 2 ^ n) : a ||| b < 2 ^ n := Nat.or_lt_two_pow ha hb
/-- the union of two admissible sets without a conflict is admissible -/
theorem sound_or {n : Nat} {l : List (Int × Int)} {a b : Nat} (hv : InR n l) (ha : a < 2 ^ n) (hb : b < 2 ^ n) (h1 : soundB n l a = true) (h2 : soundB n l b = true) (hf : freeB l (a ||| b) = true) : soundB n l (a ||| b) = true := by
  refine (soundB_iff hv (or_lt ha hb)).2 ⟨hf, fun j hj => ?_⟩
  have la : sub a (a ||| b) := fun j h => has_or.2 (.inl h)
  have lb : sub b (a ||| b) := fun j h => has_or.2 (.inr h)
  rcases has_or.1 hj with h | h
  · exact stepN_mono hv la j (((soundB_iff hv ha).1 h1).2 j h)
  · exact stepN_mono hv lb j (((soundB_iff hv hb).1 h2).2 j h)

/-- the fundamental lemma -/
theorem sound_add {n : Nat} {l : List (Int × Int)} {m k : Nat} (hv : InR n l) (hm : m < 2 ^ n) (hk : k < 2 ^ n) (h : soundB n l m = true) (hmk : sub m k) (hkF : sub k (stepN n l m)) : soundB n l k = true ∧ sub (stepN n l m) (stepN n l k) := by
  have hs := (soundB_iff hv hm).1 h
  have free := (freeB_iff hv m).1 hs.1
  refine ⟨(soundB_iff hv hk).2 ⟨(freeB_iff hv k).2 fun a b ha hb hab => ?_, fun j hj => stepN_mono hv hmk j (hkF j hj)⟩, stepN_mono hv hmk⟩
  obtain ⟨c, hc, hca⟩ := ((has_stepN hv m b).1 (hkF b hb)).2 a hab
  obtain ⟨d, hd, hdc⟩ := ((has_stepN hv m a).1 (hkF a ha)).2 c hca
  exact free d c hd hc hdc

theorem sound_zero {n : Nat} {l : List (Int × Int)} (hv : InR n l) : soundB n l 0 = true :=
  (soundB_iff hv (Nat.two_pow_pos n)).2 ⟨(freeB_iff hv 0).2 fun _ _ ha => absurd ha has_zero, fun _ hj => absurd hj has_zero⟩

/-! ### the iterations -/
theorem sub_refl (a : Nat) : sub a a := fun _ h => h
theorem sub_trans {a b c : Nat} (h : sub a b) (k : sub b c) : sub a c := fun j hj => k j (h j hj)
theorem grow_chain {n : Nat} {l : List (Int × Int)} {m : Nat} (hv : InR n l) (hs : sub m (stepN n l m)) : ∀ k, sub (itN (stepN n l) k m) (itN (stepN n l) (k + 1) m)
  | 0 => hs
  | k + 1 => stepN_mono hv (grow_chain hv hs k)
theorem grow_fix {n : Nat} {l : List (Int × Int)} {m : Nat} (hv : InR n l) (hm : m < 2 ^ n) (hs : sub m (stepN n l m)) : stepN n l (growN n l m) = growN n l m := by
  rcases Classical.em (∃ k, k ≤ 2 ^ n ∧ stepN n l (itN (stepN n l) k m) = itN (stepN n l) k m) with ⟨k, hk, h⟩ | hno
  · have := itN_at h hk
    unfold growN
    rw [this]; exact h
  · exfalso
    have : ∀ k, k ≤ 2 ^ n → k ≤ itN (stepN n l) k m := by
      intro k
      induction k with
      | zero => intro _; exact Nat.zero_le _
      | succ k ih =>
        intro hk
        have h1 := ih (by omega)
        have h2 := sub_le (grow_chain hv hs k)
        have h3 : ¬ stepN n l (itN (stepN n l) k m) = itN (stepN n l) k m := fun e => hno ⟨k, by omega, e⟩
        have h4 : itN (stepN n l) (k + 1) m = stepN n l (itN (stepN n l) k m) := rfl
        omega
    have h1 := this (2 ^ n) (Nat.le_refl _)
    have h2 : itN (stepN n l) (2 ^ n) m < 2 ^ n := growN_lt hm
    omega
theorem grow_all {n : Nat} {l : List (Int × Int)} {m : Nat} (hv : InR n l) (hm : m < 2 ^ n) (h : soundB n l m = true) : ∀ k, soundB n l (itN (stepN n l) k m) = true ∧ sub m (itN (stepN n l) k m) ∧ itN (stepN n l) k m < 2 ^ n
  | 0 => ⟨h, sub_refl _, hm⟩
  | k + 1 => by
    obtain ⟨h1, h2, h3⟩ := grow_all hv hm h k
    have h4 := ((soundB_iff hv h3).1 h1).2
    have h5 := stepN_lt n l (itN (stepN n l) k m)
    exact ⟨(sound_add hv h3 h5 h1 h4 (sub_refl _)).1, sub_trans h2 h4, h5⟩
theorem grow_compl {n : Nat} {l : List (Int × Int)} {m : Nat} (hv : InR n l) (hm : m < 2 ^ n) (h : soundB n l m = true) : complB n l (growN n l m) = true ∧ sub m (growN n l m) := by
  obtain ⟨h1, h2, _⟩ := grow_all hv hm h (2 ^ n)
  exact ⟨complB_iff.2 ⟨h1, grow_fix hv hm ((soundB_iff hv hm).1 h).2⟩, h2⟩
theorem grow_least {n : Nat} {l : List (Int × Int)} {m y : Nat} (hv : InR n l) (hy : complB n l y = true) (h : sub m y) : sub (growN n l m) y := by
  have key : ∀ k, sub (itN (stepN n l) k m) y := by
    intro k
    induction k with
    | zero => exact h
    | succ k ih => have := stepN_mono hv ih; rw [(complB_iff.1 hy).2] at this; exact this
  exact key _
theorem and_sub (a b : Nat) : sub (a &&& b) a := fun _ h => (has_and.1 h).1
theorem shrink_fix {n : Nat} {l : List (Int × Int)} {m : Nat} (hm : m < 2 ^ n) : shrinkN n l m &&& stepN n l (shrinkN n l m) = shrinkN n l m := by
  rcases Classical.em (∃ k, k ≤ 2 ^ n ∧ (fun m => m &&& stepN n l m) (itN (fun m => m &&& stepN n l m) k m) = itN (fun m => m &&& stepN n l m) k m) with ⟨k, hk, h⟩ | hno
  · have := itN_at (f := fun m => m &&& stepN n l m) h hk
    unfold shrinkN
    rw [this]; exact h
  · exfalso
    have : ∀ k, k ≤ 2 ^ n → itN (fun m => m &&& stepN n l m) k m + k ≤ m := by
      intro k
      induction k with
      | zero => intro _; exact Nat.le_refl _
      | succ k ih =>
        intro hk
        have h1 := ih (by omega)
        have h2 : (itN (fun m => m &&& stepN n l m) k m) &&& stepN n l (itN (fun m => m &&& stepN n l m) k m) ≤ itN (fun m => m &&& stepN n l m) k m := Nat.and_le_left
        have h3 : ¬ (itN (fun m => m &&& stepN n l m) k m) &&& stepN n l (itN (fun m => m &&& stepN n l m) k m) = itN (fun m => m &&& stepN n l m) k m := fun e => hno ⟨k, by omega, e⟩
        have h4 : itN (fun m => m &&& stepN n l m) (k + 1) m = (itN (fun m => m &&& stepN n l m) k m) &&& stepN n l (itN (fun m => m &&& stepN n l m) k m) := rfl
        omega
    have h1 := this (2 ^ n) (Nat.le_refl _)
    omega
theorem shrink_sub {n : Nat} {l : List (Int × Int)} {m : Nat} : ∀ k, sub (itN (fun m => m &&& stepN n l m) k m) m
  | 0 => sub_refl _
  | k + 1 => sub_trans (and_sub _ _) (shrink_sub k)
theorem free_sub {n : Nat} {l : List (Int × Int)} (hv : InR n l) {a b : Nat} (h : sub a b) (hb : freeB l b = true) : freeB l a = true :=
  (freeB_iff hv a).2 fun i j hi hj => (freeB_iff hv b).1 hb i j (h i hi) (h j hj)
theorem shrink_sound {n : Nat} {l : List (Int × Int)} {m : Nat} (hv : InR n l) (hm : m < 2 ^ n) (h : freeB l m = true) : soundB n l (shrinkN n l m) = true ∧ sub (shrinkN n l m) m := by
  have hs : sub (shrinkN n l m) m := shrink_sub _
  refine ⟨(soundB_iff hv (shrinkN_lt hm)).2 ⟨free_sub hv hs h, fun j hj => ?_⟩, hs⟩
  rw [← shrink_fix hm] at hj
  exact (has_and.1 hj).2
theorem shrink_most {n : Nat} {l : List (Int × Int)} {m y : Nat} (hv : InR n l) (hyn : y < 2 ^ n) (hy : soundB n l y = true) (h : sub y m) : sub y (shrinkN n l m) := by
  have hF := ((soundB_iff hv hyn).1 hy).2
  have key : ∀ k, sub y (itN (fun m => m &&& stepN n l m) k m) := by
    intro k
    induction k with
    | zero => exact h
    | succ k ih => exact fun j hj => has_and.2 ⟨ih j hj, stepN_mono hv ih j (hF j hj)⟩
  exact key _

/-! ### in lists -/
theorem mask_nodesB {n : Nat} {p : Nat → Bool} {j : Nat} : has (maskN (nodesB n p)) j ↔ j < n ∧ p j = true := by
  rw [has_maskS (setB_nodes n p), mem_nodesB]
  constructor
  · rintro ⟨i, hi, hp, e⟩
    have : j = i := by omega
    subst this; exact ⟨hi, hp⟩
  · rintro ⟨hj, hp⟩; exact ⟨j, hj, hp, rfl⟩
theorem mask_lt {n : Nat} (hn : n ≤ 40) (p : Nat → Bool) : maskN (nodesB n p) < 2 ^ n := (setB_mask hn (setB_nodes n p)).2
/-- the nodes of two lists -/
def bothL (n : Nat) (x y : List Int) : List Int := nodesB n fun k => inB x k || inB y k
theorem mask_both {n : Nat} {x y : List Int} (hx : setB n x = true) (hy : setB n y = true) : maskN (bothL n x y) = maskN x ||| maskN y := by
  apply has_ext
  intro j
  unfold bothL
  rw [mask_nodesB, has_or, has_maskS hx, has_maskS hy, Bool.or_eq_true, inB_iff, inB_iff]
  constructor
  · rintro ⟨_, h⟩; exact h
  · intro h
    refine ⟨?_, h⟩
    rcases h with h | h
    · have := setB_range hx _ h; omega
    · have := setB_range hy _ h; omega
/-- what Admissible answers -/
def soundL (n : Nat) (l : List (Int × Int)) (x : List Int) : Bool := setB n x && soundB n l (maskN x)
def freeL (n : Nat) (l : List (Int × Int)) (x : List Int) : Bool := setB n x && freeB l (maskN x)
def complL (n : Nat) (l : List (Int × Int)) (x : List Int) : Bool := setB n x && complB n l (maskN x)
def stabL (n : Nat) (l : List (Int × Int)) (x : List Int) : Bool := setB n x && stabB n l (maskN x)
theorem union_law {n : Nat} {l : List (Int × Int)} (hv : InR n l) {x y : List Int} (hx : soundL n l x = true) (hy : soundL n l y = true) (hf : freeL n l (bothL n x y) = true) : soundL n l (bothL n x y) = true := by
  unfold soundL freeL at *
  rw [Bool.and_eq_true] at *
  refine ⟨hf.1, ?_⟩
  rw [mask_both hx.1 hy.1] at *
  exact sound_or hv (setB_mask hv.1 hx.1).2 (setB_mask hv.1 hy.1).2 hx.2 hy.2 hf.2
theorem stable_law {n : Nat} {l : List (Int × Int)} (hv : InR n l) {x : List Int} (h : stabL n l x = true) : complL n l x = true := by
  unfold stabL complL at *
  rw [Bool.and_eq_true] at *
  exact ⟨h.1, compl_of_stab hv (setB_mask hv.1 h.1).2 h.2⟩
theorem mem_sets {n : Nat} {x : List Int} (h : setB n x = true) (hn : n ≤ 40) : x ∈ setsL n := by
  unfold setsL
  rw [List.mem_map]
  exact ⟨maskN x, List.mem_range.2 (setB_mask hn h).2, set_nodes h⟩
theorem sets_mem {n : Nat} {x : List Int} (h : x ∈ setsL n) : setB n x = true := by
  unfold setsL at h
  rw [List.mem_map] at h
  obtain ⟨m, _, rfl⟩ := h
  exact setB_nodes _ _
theorem nil_sound {n : Nat} {l : List (Int × Int)} (hv : InR n l) : soundL n l [] = true := by
  unfold soundL
  rw [Bool.and_eq_true]
  exact ⟨by simp [setB], sound_zero hv⟩
theorem good_pos {n : Nat} {l : List (Int × Int)} (hv : InR n l) : 0 < ((setsL n).filter (soundL n l)).length := by
  have : [] ∈ (setsL n).filter (soundL n l) := List.mem_filter.2 ⟨mem_sets (by simp [setB]) hv.1, nil_sound hv⟩
  exact List.length_pos_of_mem this
theorem setsL_length (n : Nat) : (setsL n).length = 2 ^ n := by simp [setsL]
/-- the lemma's more -/
theorem lemma_law {n : Nat} {l : List (Int × Int)} (hv : InR n l) {x : List Int} {i : Int} (hx : soundL n l x = true) (hi : i ∈ stepL n l x) :
    soundL n l (nodesB n fun k => decide ((k : Int) = i) || inB x k) = true ∧ insideB (stepL n l x) (stepL n l (nodesB n fun k => decide ((k : Int) = i) || inB x k)) = true := by
  unfold soundL at hx
  rw [Bool.and_eq_true] at hx
  obtain ⟨hs, hx⟩ := hx
  have hm := (setB_mask hv.1 hs).2
  unfold stepL at hi ⊢
  rw [if_pos hs] at hi
  obtain ⟨i, hin, hib, rfl⟩ := mem_nodesB.1 hi
  have hk := mask_lt hv.1 (fun k => decide ((k : Int) = (i : Int)) || inB x k)
  have h1 : sub (maskN x) (maskN (nodesB n fun k => decide ((k : Int) = (i : Int)) || inB x k)) := fun j hj => by
    rw [mask_nodesB]
    exact ⟨has_lt hm hj, by rw [Bool.or_eq_true, inB_iff]; exact .inr ((has_maskS hs).1 hj)⟩
  have h2 : sub (maskN (nodesB n fun k => decide ((k : Int) = (i : Int)) || inB x k)) (stepN n l (maskN x)) := fun j hj => by
    obtain ⟨_, hj⟩ := mask_nodesB.1 hj
    rw [Bool.or_eq_true, inB_iff, decide_eq_true_iff] at hj
    rcases hj with hj | hj
    · have : j = i := by omega
      subst this; exact hib
    · exact ((soundB_iff hv hm).1 hx).2 j ((has_maskS hs).2 hj)
  obtain ⟨h3, h4⟩ := sound_add hv hm hk hx h1 h2
  unfold soundL
  rw [if_pos hs, if_pos (setB_nodes n _), Bool.and_eq_true]
  exact ⟨⟨setB_nodes n _, h3⟩, (insideB_nodes (stepN_lt n l _)).2 h4⟩
end Go.Proofs.YtiljbfeipfdmdaaDoor
