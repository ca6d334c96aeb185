import Derived.Test.YtncimnfhfomddaaDoorRef13
import Derived.Test.YtncimnfhfomddaaDoorRef10
import Derived.Deep.OwnRows
import Derived.Laws.CopyOwn
import Derived.Deep.RegionLaw
import Derived.Laws.OwnMore
import Derived.ArgAppend
/- The plain law of the statements of layer 13: unions, the fundamental lemma, the least complete set. No program in sight. -/
namespace Go.Proofs.YtncimnfhfomddaaDoor
open Go.ChangeShapes Go.WideShapes Go.ChangeAt Go.RowKit

theorem soundB_iff {n : Nat} {l : List (Int × Int)} {m : Nat} (hv : InR n l) (hm : m < 2 ^ n) : soundB n l m = true ↔ freeB l m = true ∧ sub m (stepN n l m) := by
  unfold soundB
  rw [Bool.and_eq_true, beq_iff_eq, sub_iff_minus hv.1 hm (stepN_lt n l m)]
theorem complB_iff {n : Nat} {l : List (Int × Int)} {m : Nat} : complB n l m = true ↔ soundB n l m = true ∧ stepN n l m = m := by
  unfold complB
  rw [Bool.and_eq_true, beq_iff_eq]

/-- a stable set is complete -/
theorem compl_of_stab {n : Nat} {l : List (Int × Int)} {m : Nat} (hv : InR n l) (hm : m < 2 ^ n) (h : stabB n l m = true) : complB n l m = true := by
  unfold stabB at h
  rw [Bool.and_eq_true, beq_iff_eq] at h
  obtain ⟨hf, hr⟩ := h
  have free := (freeB_iff hv m).1 hf
  have all : ∀ j, j < n → has m j ∨ ∃ a, has m a ∧ att l a j := fun j hj => by
    have h1 : has (m ||| attN l m) j := by rw [hr]; exact has_allN.2 hj
    rcases has_or.1 h1 with h1 | h1
    · exact .inl h1
    · exact .inr ((has_attN hv m j).1 h1)
  have h1 : sub m (stepN n l m) := fun j hj => by
    rw [has_stepN hv]
    refine ⟨has_lt hm hj, fun a ha => ?_⟩
    rcases all a (att_lt hv ha).1 with h2 | h2
    · exact absurd ha (free a j h2 hj)
    · exact h2
  refine complB_iff.2 ⟨(soundB_iff hv hm).2 ⟨hf, h1⟩, sub_antisymm (fun j hj => ?_) h1⟩
  rw [has_stepN hv] at hj
  rcases all j hj.1 with h2 | ⟨b, hb, hbj⟩
  · exact h2
  · obtain ⟨c, hc, hcb⟩ := hj.2 b hbj
    exact absurd hcb (free c b hc hb)

theorem or_lt {n a b : Nat} (ha : a < 2 ^ n) (hb : b < 2 ^ n) : a ||| b < 2 ^ n := Nat.or_lt_two_pow ha hb
/-- the union of two admissible sets without a conflict is admissible -/
theorem sound_or {n : Nat} {l : List (Int × Int)} {a b : Nat} (hv : InR n l) (ha : a < 2 ^ n) (hb : b < 2 ^ n) (h1 : soundB n l a = true) (h2 : soundB n l b = true) (hf : freeB l (a ||| b) = true) : soundB n l (a ||| b) = true := by
  refine (soundB_iff hv (or_lt ha hb)).2 ⟨hf, fun j hj => ?_⟩
  have la : sub a (a ||| b) := fun j h => has_or.2 (.inl h)
  have lb : sub b (a ||| b) := fun j h => has_or.2 (.inr h)
  rcases has_or.1 hj with h | h
  · exact stepN_mono hv la j (((soundB_iff hv ha).1 h1).2 j h)
  · exact stepN_mono hv lb j (((soundB_iff hv hb).1 h2).2 j h)

/-- the fundamental lemma -/
theorem sound_add {n : Nat} {l : List (Int × Int)} {m k : Nat} (hv : InR n l) (hm : m < 2 ^ n) (hk : k < 2 ^ n) (h : soundB n l m = true) (hmk : sub m k) (hkF : sub k (stepN n l m)) : soundB n l k = true ∧ sub (stepN n l m) (stepN n l k) := by
  have hs := (soundB_iff hv hm).1 h
  have free := (freeB_iff hv m).1 hs.1
  refine ⟨(soundB_iff hv hk).2 ⟨(freeB_iff hv k).2 fun a b ha hb hab => ?_, fun j hj => stepN_mono hv hmk j (hkF j hj)⟩, stepN_mono hv hmk⟩
  obtain ⟨c, hc, hca⟩ := ((has_stepN hv m b).1 (hkF b hb)).2 a hab
  obtain ⟨d, hd, hdc⟩ := ((has_stepN hv m a).1 (hkF a ha)).2 c hca
  exact free d c hd hc hdc

theorem sound_zero {n : Nat} {l : List (Int × Int)} (hv : InR n l) : soundB n l 0 = true :=
  (soundB_iff hv (Nat.two_pow_pos n)).2 ⟨(freeB_iff hv 0).2 fun _ _ ha => absurd ha has_zero, fun _ hj => absurd hj has_zero⟩

/-! ### the iterations -/
theorem sub_refl (a : Nat) : sub a a := fun _ h => h
theorem sub_trans {a b c : Nat} (h : sub a b) (k : sub b c) : sub a c := fun j hj => k j (h j hj)
theorem grow_chain {n : Nat} {l : List (Int × Int)} {m : Nat} (hv : InR n l) (hs : sub m (stepN n l m)) : ∀ k, sub (itN (stepN n l) k m) (itN (stepN n l) (k + 1) m)
  | 0 => hs
  | k + 1 => stepN_mono hv (grow_chain hv hs k)
theorem grow_fix {n : Nat} {l : List (Int × Int)} {m : Nat} (hv : InR n l) (hm : m < 2 ^ n) (hs : sub m (stepN n l m)) : stepN n l (growN n l m) = growN n l m := by
  rcases Classical.em (∃ k, k ≤ 2 ^ n ∧ stepN n l (itN (stepN n l) k m) = itN (stepN n l) k m) with ⟨k, hk, h⟩ | hno
  · have := itN_at h hk
    unfold growN
    rw [this]; exact h
  · exfalso
    have : ∀ k, k ≤ 2 ^ n → k ≤ itN (stepN n l) k m := by
      intro k
      induction k with
      | zero => intro _; exact Nat.zero_le _
      | succ k ih =>
        intro hk
        have h1 := ih (by omega)
        have h2 := sub_le (grow_chain hv hs k)
        have h3 : ¬ stepN n l (itN (stepN n l) k m) = itN (stepN n l) k m := fun e => hno ⟨k, by omega, e⟩
        have h4 : itN (stepN n l) (k + 1) m = stepN n l (itN (stepN n l) k m) := rfl
        omega
    have h1 := this (2 ^ n) (Nat.le_refl _)
    have h2 : itN (stepN n l) (2 ^ n) m < 2 ^ n := growN_lt hm
    omega
theorem grow_all {n : Nat} {l : List (Int × Int)} {m : Nat} (hv : InR n l) (hm : m < 2 ^ n) (h : soundB n l m = true) : ∀ k, soundB n l (itN (stepN n l) k m) = true ∧ sub m (itN (stepN n l) k m) ∧ itN (stepN n l) k m < 2 ^ n
  | 0 => ⟨h, sub_refl _, hm⟩
  | k + 1 => by
    obtain ⟨h1, h2, h3⟩ := grow_all hv hm h k
    have h4 := ((soundB_iff hv h3).1 h1).2
    have h5 := stepN_lt n l (itN (stepN n l) k m)
    exact ⟨(sound_add hv h3 h5 h1 h4 (sub_refl _)).1, sub_trans h2 h4, h5⟩
theorem grow_compl {n : Nat} {l : List (Int × Int)} {m : Nat} (hv : InR n l) (hm : m < 2 ^ n) (h : soundB n l m = true) : complB n l (growN n l m) = true ∧ sub m (growN n l m) := by
  obtain ⟨h1, h2, _⟩ := grow_all hv hm h (2 ^ n)
  exact ⟨complB_iff.2 ⟨h1, grow_fix hv hm ((soundB_iff hv hm).1 h).2⟩, h2⟩
theorem grow_least {n : Nat} {l : List (Int × Int)} {m y : Nat} (hv : InR n l) (hy : complB n l y = true) (h : sub m y) : sub (growN n l m) y := by
  have key : ∀ k, sub (itN (stepN n l) k m) y := by
    intro k
    induction k with
    | zero => exact h
    | succ k ih => have := stepN_mono hv ih; rw [(complB_iff.1 hy).2] at this; exact this
  exact key _
theorem and_sub (a b : Nat) : sub (a &&& b) a := fun _ h => (has_and.1 h).1
theorem shrink_fix {n : Nat} {l : List (Int × Int)} {m : Nat} (hm : m < 2 ^ n) : shrinkN n l m &&& stepN n l (shrinkN n l m) = shrinkN n l m := by
  rcases Classical.em (∃ k, k ≤ 2 ^ n ∧ (fun m => m &&& stepN n l m) (itN (fun m => m &&& stepN n l m) k m) = itN (fun m => m &&& stepN n l m) k m) with ⟨k, hk, h⟩ | hno
  · have := itN_at (f := fun m => m &&& stepN n l m) h hk
    unfold shrinkN
    rw [this]; exact h
  · exfalso
    have : ∀ k, k ≤ 2 ^ n → itN (fun m => m &&& stepN n l m) k m + k ≤ m := by
      intro k
      induction k with
      | zero => intro _; exact Nat.le_refl _
      | succ k ih =>
        intro hk
        have h1 := ih (by omega)
        have h2 : (itN (fun m => m &&& stepN n l m) k m) &&& stepN n l (itN (fun m => m &&& stepN n l m) k m) ≤ itN (fun m => m &&& stepN n l m) k m := Nat.and_le_left
        have h3 : ¬ (itN (fun m => m &&& stepN n l m) k m) &&& stepN n l (itN (fun m => m &&& stepN n l m) k m) = itN (fun m => m &&& stepN n l m) k m := fun e => hno ⟨k, by omega, e⟩
        have h4 : itN (fun m => m &&& stepN n l m) (k + 1) m = (itN (fun m => m &&& stepN n l m) k m) &&& stepN n l (itN (fun m => m &&& stepN n l m) k m) := rfl
        omega
    have h1 := this (2 ^ n) (Nat.le_refl _)
    omega
theorem shrink_sub {n : Nat} {l : List (Int × Int)} {m : Nat} : ∀ k, sub (itN (fun m => m &&& stepN n l m) k m) m
  | 0 => sub_refl _
  | k + 1 => sub_trans (and_sub _ _) (shrink_sub k)
theorem free_sub {n : Nat} {l : List (Int × Int)} (hv : InR n l) {a b : Nat} (h : sub a b) (hb : freeB l b = true) : freeB l a = true :=
  (freeB_iff hv a).2 fun i j hi hj => (freeB_iff hv b).1 hb i j (h i hi) (h j hj)
theorem shrink_sound {n : Nat} {l : List (Int × Int)} {m : Nat} (hv : InR n l) (hm : m < 2 ^ n) (h : freeB l m = true) : soundB n l (shrinkN n l m) = true ∧ sub (shrinkN n l m) m := by
  have hs : sub (shrinkN n l m) m := shrink_sub _
  refine ⟨(soundB_iff hv (shrinkN_lt hm)).2 ⟨free_sub hv hs h, fun j hj => ?_⟩, hs⟩
  rw [← shrink_fix hm] at hj
  exact (has_and.1 hj).2
theorem shrink_most {n : Nat} {l : List (Int × Int)} {m y : Nat} (hv : InR n l) (hyn : y < 2 ^ n) (hy : soundB n l y = true) (h : sub y m) : sub y (shrinkN n l m) := by
  have hF := ((soundB_iff hv hyn).1 hy).2
  have key : ∀ k, sub y (itN (fun m => m &&& stepN n l m) k m) := by
    intro k
    induction k with
    | zero => exact h
    | succ k ih => exact fun j hj => has_and.2 ⟨ih j hj, stepN_mono hv ih j (hF j hj)⟩
  exact key _

/-! ### in lists -/
theorem mask_nodesB {n : Nat} {p : Nat → Bool} {j : Nat} : has (maskN (nodesB n p)) j ↔ j < n ∧ p j = true := by
  rw [has_maskS (setB_nodes n p), mem_nodesB]
  constructor
  · rintro ⟨i, hi, hp, e⟩
    have : j = i := by omega
    subst this; exact ⟨hi, hp⟩
  · rintro ⟨hj, hp⟩; exact ⟨j, hj, hp, rfl⟩
theorem mask_lt {n : Nat} (hn : n ≤ 40) (p : Nat → Bool) : maskN (nodesB n p) < 2 ^ n := (setB_mask hn (setB_nodes n p)).2
/-- the nodes of two lists -/
def bothL (n : Nat) (x y : List Int) : List Int := nodesB n fun k => inB x k || inB y k
theorem mask_both {n : Nat} {x y : List Int} (hx : setB n x = true) (hy : setB n y = true) : maskN (bothL n x y) = maskN x ||| maskN y := by
  apply has_ext
  intro j
  unfold bothL
  rw [mask_nodesB, has_or, has_maskS hx, has_maskS hy, Bool.or_eq_true, inB_iff, inB_iff]
  constructor
  · rintro ⟨_, h⟩; exact h
  · intro h
    refine ⟨?_, h⟩
    rcases h with h | h
    · have := setB_range hx _ h; omega
    · have := setB_range hy _ h; omega
/-- what Admissible answers -/
def soundL (n : Nat) (l : List (Int × Int)) (x : List Int) : Bool := setB n x && soundB n l (maskN x)
def freeL (n : Nat) (l : List (Int × Int)) (x : List Int) : Bool := setB n x && freeB l (maskN x)
def complL (n : Nat) (l : List (Int × Int)) (x : List Int) : Bool := setB n x && complB n l (maskN x)
def stabL (n : Nat) (l : List (Int × Int)) (x : List Int) : Bool := setB n x && stabB n l (maskN x)
theorem union_law {n : Nat} {l : List (Int × Int)} (hv : InR n l) {x y : List Int} (hx : soundL n l x = true) (hy : soundL n l y = true) (hf : freeL n l (bothL n x y) = true) : soundL n l (bothL n x y) = true := by
  unfold soundL freeL at *
  rw [Bool.and_eq_true] at *
  refine ⟨hf.1, ?_⟩
  rw [mask_both hx.1 hy.1] at *
  exact sound_or hv (setB_mask hv.1 hx.1).2 (setB_mask hv.1 hy.1).2 hx.2 hy.2 hf.2
theorem stable_law {n : Nat} {l : List (Int × Int)} (hv : InR n l) {x : List Int} (h : stabL n l x = true) : complL n l x = true := by
  unfold stabL complL at *
  rw [Bool.and_eq_true] at *
  exact ⟨h.1, compl_of_stab hv (setB_mask hv.1 h.1).2 h.2⟩
theorem mem_sets {n : Nat} {x : List Int} (h : setB n x = true) (hn : n ≤ 40) : x ∈ setsL n := by
  unfold setsL
  rw [List.mem_map]
  exact ⟨maskN x, List.mem_range.2 (setB_mask hn h).2, set_nodes h⟩
theorem sets_mem {n : Nat} {x : List Int} (h : x ∈ setsL n) : setB n x = true := by
  unfold setsL at h
  rw [List.mem_map] at h
  obtain ⟨m, _, rfl⟩ := h
  exact setB_nodes _ _
theorem nil_sound {n : Nat} {l : List (Int × Int)} (hv : InR n l) : soundL n l [] = true := by
  unfold soundL
  rw [Bool.and_eq_true]
  exact ⟨by simp [setB], sound_zero hv⟩
theorem good_pos {n : Nat} {l : List (Int × Int)} (hv : InR n l) : 0 < ((setsL n).filter (soundL n l)).length := by
  have : [] ∈ (setsL n).filter (soundL n l) := List.mem_filter.2 ⟨mem_sets (by simp [setB]) hv.1, nil_sound hv⟩
  exact List.length_pos_of_mem this
theorem setsL_length (n : Nat) : (setsL n).length = 2 ^ n := by simp [setsL]
/-- the lemma's more -/
theorem lemma_law {n : Nat} {l : List (Int × Int)} (hv : InR n l) {x : List Int} {i : Int} (hx : soundL n l x = true) (hi : i ∈ stepL n l x) :
    soundL n l (nodesB n fun k => decide ((k : Int) = i) || inB x k) = true ∧ insideB (stepL n l x) (stepL n l (nodesB n fun k => decide ((k : Int) = i) || inB x k)) = true := by
  unfold soundL at hx
  rw [Bool.and_eq_true] at hx
  obtain ⟨hs, hx⟩ := hx
  have hm := (setB_mask hv.1 hs).2
  unfold stepL at hi ⊢
  rw [if_pos hs] at hi
  obtain ⟨i, hin, hib, rfl⟩ := mem_nodesB.1 hi
  have hk := mask_lt hv.1 (fun k => decide ((k : Int) = (i : Int)) || inB x k)
  have h1 : sub (maskN x) (maskN (nodesB n fun k => decide ((k : Int) = (i : Int)) || inB x k)) := fun j hj => by
    rw [mask_nodesB]
    exact ⟨has_lt hm hj, by rw [Bool.or_eq_true, inB_iff]; exact .inr ((has_maskS hs).1 hj)⟩
  have h2 : sub (maskN (nodesB n fun k => decide ((k : Int) = (i : Int)) || inB x k)) (stepN n l (maskN x)) := fun j hj => by
    obtain ⟨_, hj⟩ := mask_nodesB.1 hj
    rw [Bool.or_eq_true, inB_iff, decide_eq_true_iff] at hj
    rcases hj with hj | hj
    · have : j = i := by omega
      subst this; exact hib
    · exact ((soundB_iff hv hm).1 hx).2 j ((has_maskS hs).2 hj)
  obtain ⟨h3, h4⟩ := sound_add hv hm hk hx h1 h2
  unfold soundL
  rw [if_pos hs, if_pos (setB_nodes n _), Bool.and_eq_true]
  exact ⟨⟨setB_nodes n _, h3⟩, (insideB_nodes (stepN_lt n l _)).2 h4⟩
end Go.Proofs.YtncimnfhfomddaaDoor

/- The grounded labelling in plain words: rounds, their invariants, their end. No program in sight. -/
namespace Go.Proofs.YtncimnfhfomddaaDoor
open Go.ChangeShapes Go.WideShapes Go.ChangeAt Go.RowKit

/-- a function on the nodes as a list -/
def lst (n : Nat) (f : Nat → Int) : List Int := (List.range n).map f
theorem lst_length (n : Nat) (f : Nat → Int) : (lst n f).length = n := by simp [lst]
theorem lst_getD {n : Nat} {f : Nat → Int} {k : Nat} (h : k < n) : (lst n f).getD k 0 = f k := by simp [lst, List.getD, h]
theorem lst_get {n : Nat} {f : Nat → Int} {k : Nat} (h : k < (lst n f).length) : (lst n f)[k] = f k := by simp [lst]
theorem lst_congr {n : Nat} {f g : Nat → Int} (h : ∀ i, i < n → f i = g i) : lst n f = lst n g := by
  unfold lst
  exact List.map_congr_left fun i hi => h i (List.mem_range.1 hi)
theorem lst_inj {n : Nat} {f g : Nat → Int} (h : lst n f = lst n g) : ∀ i, i < n → f i = g i := fun i hi => by
  have := congrArg (fun l => l.getD i 0) h
  simpa only [lst_getD hi] using this
theorem lst_succ (n : Nat) (f : Nat → Int) : lst (n + 1) f = lst n f ++ [f n] := by simp [lst, List.range_succ]
def upd (f : Nat → Int) (k : Nat) (x : Int) : Nat → Int := fun j => if j = k then x else f j
theorem upd_same (f : Nat → Int) (k : Nat) (x : Int) : upd f k x k = x := by simp [upd]
theorem upd_ne {f : Nat → Int} {k j : Nat} {x : Int} (h : j ≠ k) : upd f k x j = f j := by simp [upd, h]
theorem lst_set {n : Nat} {f : Nat → Int} {k : Nat} (x : Int) : (lst n f).set k x = lst n (upd f k x) := by
  apply List.ext_getElem
  · simp [lst]
  · intro i h1 h2
    simp only [lst, List.getElem_set, List.getElem_map, List.getElem_range, upd]
    by_cases h : k = i
    · rw [if_pos h, if_pos h.symm]
    · rw [if_neg h, if_neg (fun e => h e.symm)]

theorem mem_attackedL {l : List (Int × Int)} {x i : Int} : x ∈ attackedL l i ↔ (i, x) ∈ l := by
  unfold attackedL
  rw [List.mem_map]
  constructor
  · rintro ⟨p, hp, rfl⟩
    rw [List.mem_filter] at hp
    have : p.1 = i := by simpa using hp.2
    subst this; exact hp.1
  · intro h; exact ⟨(i, x), List.mem_filter.2 ⟨h, by simp⟩, rfl⟩
theorem attacker_nat {n : Nat} {l : List (Int × Int)} (hv : InR n l) {x : Int} {i : Nat} (h : x ∈ attackersL l i) : ∃ a : Nat, x = a ∧ a < n ∧ att l a i := by
  have hm := mem_attackersL.1 h
  have := hv.2.2 _ hm
  simp at this
  exact ⟨x.toNat, by omega, by omega, by unfold att; rw [show ((x.toNat : Nat) : Int) = x by omega]; exact hm⟩
theorem attacked_nat {n : Nat} {l : List (Int × Int)} (hv : InR n l) {x : Int} {i : Nat} (h : x ∈ attackedL l i) : ∃ a : Nat, x = a ∧ a < n ∧ att l i a := by
  have hm := mem_attackedL.1 h
  have := hv.2.2 _ hm
  simp at this
  exact ⟨x.toNat, by omega, by omega, by unfold att; rw [show ((x.toNat : Nat) : Int) = x by omega]; exact hm⟩
theorem all_attackers {n : Nat} {l : List (Int × Int)} (hv : InR n l) {p : Nat → Bool} {i : Nat} : (attackersL l i).all (fun a => p a.toNat) = true ↔ ∀ a, att l a i → p a = true := by
  rw [List.all_eq_true]
  constructor
  · intro h a ha
    have := h a (mem_attackersL.2 ha)
    simpa using this
  · intro h x hx
    obtain ⟨a, rfl, _, ha⟩ := attacker_nat hv hx
    simpa using h a ha
theorem any_attackers {n : Nat} {l : List (Int × Int)} (hv : InR n l) {p : Nat → Bool} {i : Nat} : (attackersL l i).any (fun a => p a.toNat) = true ↔ ∃ a, att l a i ∧ p a = true := by
  rw [List.any_eq_true]
  constructor
  · rintro ⟨x, hx, hp⟩
    obtain ⟨a, rfl, _, ha⟩ := attacker_nat hv hx
    exact ⟨a, ha, by simpa using hp⟩
  · rintro ⟨a, ha, hp⟩
    exact ⟨a, mem_attackersL.2 ha, by simpa using hp⟩

/-! ### the rounds -/
/-- node i becomes In in the next round -/
def frB (n : Nat) (l : List (Int × Int)) (L : Nat → Int) (i : Nat) : Bool := decide (i < n) && (L i == 3) && (attackersL l i).all fun a => L a.toNat == 2
/-- node i becomes Out in the next round -/
def gHitB (n : Nat) (l : List (Int × Int)) (L : Nat → Int) (i : Nat) : Bool := (L i == 3) && !frB n l L i && (attackersL l i).any fun a => frB n l L a.toNat
def nxL (n : Nat) (l : List (Int × Int)) (L : Nat → Int) : Nat → Int := fun i => if frB n l L i then 1 else if gHitB n l L i then 2 else L i
def nxR (n : Nat) (l : List (Int × Int)) (L : Nat → Int) (r : Int) (R : Nat → Int) : Nat → Int := fun i => if frB n l L i then r else if gHitB n l L i then r else R i
def stL (n : Nat) (l : List (Int × Int)) : Nat → Nat → Int
  | 0 => fun _ => 3
  | r + 1 => nxL n l (stL n l r)
def stR (n : Nat) (l : List (Int × Int)) : Nat → Nat → Int
  | 0 => fun _ => 0
  | r + 1 => nxR n l (stL n l r) (r + 1) (stR n l r)
/-- the grounded labelling and its ranks -/
def grL (n : Nat) (l : List (Int × Int)) : Nat → Int := stL n l n
def grR (n : Nat) (l : List (Int × Int)) : Nat → Int := stR n l n

theorem frB_iff {n : Nat} {l : List (Int × Int)} (hv : InR n l) {L : Nat → Int} {i : Nat} : frB n l L i = true ↔ i < n ∧ L i = 3 ∧ ∀ a, att l a i → L a = 2 := by
  unfold frB
  rw [Bool.and_eq_true, Bool.and_eq_true, decide_eq_true_iff, beq_iff_eq, all_attackers hv (p := fun a => L a == 2)]
  simp only [beq_iff_eq]
  constructor
  · rintro ⟨⟨h1, h2⟩, h3⟩; exact ⟨h1, h2, h3⟩
  · rintro ⟨h1, h2, h3⟩; exact ⟨⟨h1, h2⟩, h3⟩
theorem gHitB_iff {n : Nat} {l : List (Int × Int)} (hv : InR n l) {L : Nat → Int} {i : Nat} : gHitB n l L i = true ↔ L i = 3 ∧ frB n l L i = false ∧ ∃ a, att l a i ∧ frB n l L a = true := by
  unfold gHitB
  rw [Bool.and_eq_true, Bool.and_eq_true, beq_iff_eq, any_attackers hv]
  simp only [Bool.not_eq_true']
  constructor
  · rintro ⟨⟨h1, h2⟩, h3⟩; exact ⟨h1, h2, h3⟩
  · rintro ⟨h1, h2, h3⟩; exact ⟨⟨h1, h2⟩, h3⟩
/-- an attacked node is not free while its attacker is undecided -/
theorem not_free_of_free {n : Nat} {l : List (Int × Int)} (hv : InR n l) {L : Nat → Int} {a i : Nat} (ha : frB n l L a = true) (h : att l a i) : frB n l L i = false := by
  cases hb : frB n l L i
  · rfl
  · have h1 := ((frB_iff hv).1 hb).2.2 a h
    have h2 := ((frB_iff hv).1 ha).2.1
    omega

/-- what holds of the labels behind each round -/
structure GrI (n : Nat) (l : List (Int × Int)) (L : Nat → Int) : Prop where
  rng : ∀ i, L i = 1 ∨ L i = 2 ∨ L i = 3
  isIn : ∀ i, L i = 1 → i < n ∧ ∀ a, att l a i → L a = 2
  isOut : ∀ i, L i = 2 → ∃ a, att l a i ∧ L a = 1
  outs : ∀ a i, L a = 1 → att l a i → L i = 2
theorem GrI.next {n : Nat} {l : List (Int × Int)} (hv : InR n l) {L : Nat → Int} (h : GrI n l L) : GrI n l (nxL n l L) := by
  have keep1 : ∀ i, L i = 1 → nxL n l L i = 1 := fun i hi => by
    have hf : frB n l L i = false := by cases hb : frB n l L i; rfl; have := ((frB_iff hv).1 hb).2.1; omega
    have hh : gHitB n l L i = false := by cases hb : gHitB n l L i; rfl; have := ((gHitB_iff hv).1 hb).1; omega
    simp [nxL, hf, hh, hi]
  have keep2 : ∀ i, L i = 2 → nxL n l L i = 2 := fun i hi => by
    have hf : frB n l L i = false := by cases hb : frB n l L i; rfl; have := ((frB_iff hv).1 hb).2.1; omega
    have hh : gHitB n l L i = false := by cases hb : gHitB n l L i; rfl; have := ((gHitB_iff hv).1 hb).1; omega
    simp [nxL, hf, hh, hi]
  have from1 : ∀ i, nxL n l L i = 1 → frB n l L i = true ∨ L i = 1 := fun i hi => by
    unfold nxL at hi
    split at hi
    · left; assumption
    · split at hi
      · omega
      · right; exact hi
  have newIn : ∀ i, frB n l L i = true → nxL n l L i = 1 := fun i hi => by simp [nxL, hi]
  refine ⟨fun i => ?_, fun i hi => ?_, fun i hi => ?_, fun a i ha hai => ?_⟩
  · unfold nxL
    split
    · left; rfl
    · split
      · right; left; rfl
      · exact h.rng i
  · rcases from1 i hi with hf | h1
    · obtain ⟨h1, h2, h3⟩ := (frB_iff hv).1 hf
      exact ⟨h1, fun a ha => keep2 a (h3 a ha)⟩
    · exact ⟨(h.isIn i h1).1, fun a ha => keep2 a ((h.isIn i h1).2 a ha)⟩
  · unfold nxL at hi
    split at hi
    · omega
    · split at hi
      · rename_i hh
        obtain ⟨_, _, a, ha, hfa⟩ := (gHitB_iff hv).1 hh
        exact ⟨a, ha, newIn a hfa⟩
      · obtain ⟨a, ha, h1⟩ := h.isOut i hi
        exact ⟨a, ha, keep1 a h1⟩
  · rcases from1 a ha with hf | h1
    · rcases h.rng i with hi | hi | hi
      · have h2 := (h.isIn i hi).2 a hai
        have h3 := ((frB_iff hv).1 hf).2.1
        omega
      · exact keep2 i hi
      · have hn := not_free_of_free hv hf hai
        have hh : gHitB n l L i = true := (gHitB_iff hv).2 ⟨hi, hn, a, hai, hf⟩
        simp [nxL, hn, hh]
    · exact keep2 i (h.outs a i h1 hai)
theorem stL_inv {n : Nat} {l : List (Int × Int)} (hv : InR n l) : ∀ r, GrI n l (stL n l r)
  | 0 => ⟨fun _ => .inr (.inr rfl), fun i hi => by simp [stL] at hi, fun i hi => by simp [stL] at hi, fun a i hi => by simp [stL] at hi⟩
  | r + 1 => (stL_inv hv r).next hv
theorem stR_le {n : Nat} {l : List (Int × Int)} : ∀ (r : Nat) (i : Nat), 0 ≤ stR n l r i ∧ stR n l r i ≤ r
  | 0, _ => by simp [stR]
  | r + 1, i => by
    have := stR_le (n := n) (l := l) r i
    simp only [stR, nxR]
    split
    · omega
    · split <;> omega

/-- nobody becomes In any more -/
def restB (n : Nat) (l : List (Int × Int)) (L : Nat → Int) : Prop := ∀ i, i < n → frB n l L i = false
theorem rest_frB {n : Nat} {l : List (Int × Int)} (hv : InR n l) {L : Nat → Int} (h : restB n l L) (i : Nat) : frB n l L i = false := by
  cases hb : frB n l L i
  · rfl
  · rw [h i ((frB_iff hv).1 hb).1] at hb; cases hb
theorem rest_next {n : Nat} {l : List (Int × Int)} (hv : InR n l) {L : Nat → Int} (h : restB n l L) : nxL n l L = L ∧ ∀ r R, nxR n l L r R = R := by
  have hh : ∀ i, gHitB n l L i = false := fun i => by
    cases hb : gHitB n l L i
    · rfl
    · obtain ⟨_, _, a, _, ha⟩ := (gHitB_iff hv).1 hb
      rw [rest_frB hv h a] at ha; cases ha
  exact ⟨funext fun i => by simp [nxL, rest_frB hv h i, hh i], fun r R => funext fun i => by simp [nxR, rest_frB hv h i, hh i]⟩
theorem rest_stays {n : Nat} {l : List (Int × Int)} (hv : InR n l) {r : Nat} (h : restB n l (stL n l r)) : ∀ d, stL n l (r + d) = stL n l r ∧ stR n l (r + d) = stR n l r
  | 0 => ⟨rfl, rfl⟩
  | d + 1 => by
    obtain ⟨h1, h2⟩ := rest_stays hv h d
    obtain ⟨h3, h4⟩ := rest_next hv h
    have e : r + (d + 1) = (r + d) + 1 := by omega
    rw [e]
    simp only [stL, stR]
    rw [h1, h2, h3, h4]
    exact ⟨rfl, rfl⟩
/-- the undecided nodes -/
def undN (n : Nat) (L : Nat → Int) : Nat := ((List.range n).filter fun i => L i == 3).length
theorem undN_le (n : Nat) (L : Nat → Int) : undN n L ≤ n := by
  unfold undN
  have := List.length_filter_le (fun i => L i == 3) (List.range n)
  simpa using this
theorem filter_length_lt {α : Type} {p q : α → Bool} : ∀ {l : List α}, (∀ x ∈ l, q x = true → p x = true) → (∃ x ∈ l, p x = true ∧ q x = false) → (l.filter q).length < (l.filter p).length
  | [], _, h => by obtain ⟨x, hx, _⟩ := h; cases hx
  | y :: l, h1, h2 => by
    have hle : (l.filter q).length ≤ (l.filter p).length := by
      have h1' : ∀ x ∈ l, q x = true → p x = true := fun x hx => h1 x (List.mem_cons_of_mem _ hx)
      clear h1 h2
      induction l with
      | nil => simp
      | cons z l ih =>
        have := ih fun x hx => h1' x (List.mem_cons_of_mem _ hx)
        simp only [List.filter_cons]
        by_cases hq : q z = true
        · rw [if_pos hq, if_pos (h1' z (List.mem_cons_self ..) hq)]; simp; omega
        · rw [if_neg hq]; split <;> simp <;> omega
    simp only [List.filter_cons]
    by_cases hq : q y = true
    · rw [if_pos hq, if_pos (h1 y (List.mem_cons_self ..) hq)]
      have : (l.filter q).length < (l.filter p).length := by
        refine filter_length_lt (fun x hx => h1 x (List.mem_cons_of_mem _ hx)) ?_
        obtain ⟨x, hx, hp, hq'⟩ := h2
        rcases List.mem_cons.1 hx with rfl | hx
        · rw [hq] at hq'; cases hq'
        · exact ⟨x, hx, hp, hq'⟩
      simp; omega
    · rw [if_neg hq]
      by_cases hp : p y = true
      · rw [if_pos hp]; simp; omega
      · rw [if_neg hp]
        refine filter_length_lt (fun x hx => h1 x (List.mem_cons_of_mem _ hx)) ?_
        obtain ⟨x, hx, hp', hq'⟩ := h2
        rcases List.mem_cons.1 hx with rfl | hx
        · exact absurd hp' hp
        · exact ⟨x, hx, hp', hq'⟩
theorem und_next {n : Nat} {l : List (Int × Int)} (hv : InR n l) {L : Nat → Int} {i : Nat} (h : frB n l L i = true) : undN n (nxL n l L) < undN n L := by
  obtain ⟨h1, h2, _⟩ := (frB_iff hv).1 h
  refine filter_length_lt (fun x _ hx => ?_) ⟨i, List.mem_range.2 h1, by simpa using h2, by simp [nxL, h]⟩
  simp only [beq_iff_eq] at hx ⊢
  unfold nxL at hx
  split at hx
  · omega
  · split at hx
    · omega
    · exact hx
/-- unless it rested before, the rounds so far have each decided a node -/
theorem und_round {n : Nat} {l : List (Int × Int)} (hv : InR n l) : ∀ r, (∃ r0, r0 ≤ r ∧ restB n l (stL n l r0)) ∨ undN n (stL n l r) + r ≤ n
  | 0 => .inr (by have := undN_le n (stL n l 0); omega)
  | r + 1 => by
    rcases und_round hv r with ⟨r0, h0, h⟩ | h
    · exact .inl ⟨r0, by omega, h⟩
    · rcases Classical.em (∃ i, frB n l (stL n l r) i = true) with ⟨i, hi⟩ | hno
      · have := und_next hv hi
        have e : stL n l (r + 1) = nxL n l (stL n l r) := rfl
        rw [← e] at this
        exact .inr (by omega)
      · refine .inl ⟨r, by omega, fun i _ => ?_⟩
        cases hb : frB n l (stL n l r) i
        · rfl
        · exact absurd ⟨i, hb⟩ hno
theorem rest_at_n {n : Nat} {l : List (Int × Int)} (hv : InR n l) : ∃ r0, r0 ≤ n ∧ restB n l (stL n l r0) := by
  rcases und_round hv n with h | h
  · exact h
  · refine ⟨n, Nat.le_refl _, fun i hi => ?_⟩
    cases hb : frB n l (stL n l n) i
    · rfl
    · have := und_next hv hb
      omega
theorem rest_final {n : Nat} {l : List (Int × Int)} (hv : InR n l) {r : Nat} (h : restB n l (stL n l r)) : stL n l r = grL n l ∧ stR n l r = grR n l := by
  obtain ⟨r0, h0, hr⟩ := rest_at_n hv
  obtain ⟨d, hd⟩ := Nat.exists_eq_add_of_le h0
  have a := rest_stays hv hr d
  rw [← hd] at a
  have b := rest_stays hv h r0
  have c := rest_stays hv hr r
  rw [Nat.add_comm] at b
  exact ⟨by rw [← b.1, c.1, ← a.1]; rfl, by rw [← b.2, c.2, ← a.2]; rfl⟩
theorem gr_rest {n : Nat} {l : List (Int × Int)} (hv : InR n l) : restB n l (grL n l) := by
  obtain ⟨r0, h0, hr⟩ := rest_at_n hv
  obtain ⟨d, hd⟩ := Nat.exists_eq_add_of_le h0
  have a := rest_stays hv hr d
  rw [← hd] at a
  unfold grL
  rw [a.1]; exact hr
theorem gr_inv {n : Nat} {l : List (Int × Int)} (hv : InR n l) : GrI n l (grL n l) := stL_inv hv n
/-- a round that finds a free node is one of the first n -/
theorem round_le {n : Nat} {l : List (Int × Int)} (hv : InR n l) {r : Nat} (h : ∀ q, q < r → ¬ restB n l (stL n l q)) : r ≤ n := by
  rcases Nat.lt_or_ge n r with hlt | hge
  · obtain ⟨r0, h0, hr⟩ := rest_at_n hv
    exact absurd hr (h r0 (by omega))
  · exact hge
end Go.Proofs.YtncimnfhfomddaaDoor

/- Rows of cells that the call itself made, told by their index. -/
namespace Go.Proofs.YtncimnfhfomddaaDoor
open Go.ChangeShapes Go.WideShapes Go.ChangeAt Go.RowKit

theorem rowIs_below {w w' : World} {g B n : Nat} {t : TypeId} {f : Nat → Value} (h : w.rowIs g t n f) (hb : Below B w w') (hg : g < B) : w'.rowIs g t n f := h.of_block (hb.block g hg)
theorem rowIs_new {w w' : World} {g n : Nat} {t : TypeId} {f : Nat → Value} (h : w.rowIs g t n f) (hb : Below w.heap.size w w') : w'.rowIs g t n f := rowIs_below h hb h.lt
theorem rowIs_grown {w w' : World} {g n : Nat} {t : TypeId} {f : Nat → Value} {row : Option Nat} (h : w.rowIs g t n f) (hb : w.grownBy w' row) (hg : some g ≠ row) : w'.rowIs g t n f := h.of_block (hb.block g h.lt hg)
theorem rowIs_append {w w' : World} {g n k : Nat} {t : TypeId} {f : Nat → Value} {v : Value} {base : Nat} {e : TypeId} {size : Nat} {xs : List Value} (h : w.rowIs g t n f) (ho : w.ownsRow base e size v k xs) (hb : w.grownBy w' v.ownBlock) (hg : g < base) : w'.rowIs g t n f :=
  rowIs_grown h hb (fun he => by have := (ho.lt g he.symm).1; omega)
/-- a row of numbers -/
def Row (w : World) (g n : Nat) (f : Nat → Int) : Prop := w.rowIs g 3 n fun i => .int .i64 (f i)
theorem Row.lt {w : World} {g n : Nat} {f : Nat → Int} (h : Row w g n f) : g < w.heap.size := World.rowIs.lt h
theorem Row.cell {w : World} {g n : Nat} {f : Nat → Int} (h : Row w g n f) {i : Nat} (hi : i < n) : w.cell? ⟨g, i, none⟩ = some (.int .i64 (f i)) := World.rowIs.cell h hi
theorem Row.frozen {w : World} {g n : Nat} {f : Nat → Int} (h : Row w g n f) (i : Nat) : w.frozen? ⟨g, i, none⟩ = false := World.rowIs.frozen h i
theorem Row.set {w : World} {g n : Nat} {f : Nat → Int} (h : Row w g n f) (i : Nat) (x : Int) : Row (w.setCell ⟨g, i, none⟩ (.int .i64 x)) g n (upd f i x) :=
  World.rowIs.congr (World.rowIs.set h i (.int .i64 x)) fun j _ => by unfold upd; split <;> rfl
theorem Row.far {w : World} {g n : Nat} {f : Nat → Int} (h : Row w g n f) {a : Addr} (ha : g ≠ a.block) (v : Value) : Row (w.setCell a v) g n f := World.rowIs.setOther h ha v
theorem Row.congr {w : World} {g n : Nat} {f f' : Nat → Int} (h : Row w g n f) (e : ∀ i, i < n → f i = f' i) : Row w g n f' := World.rowIs.congr h fun i hi => by rw [e i hi]
theorem Row.ri {w : World} {g n : Nat} {f : Nat → Int} (h : Row w g n f) : RI w (some ⟨g, 0, none⟩) (lst n f) := fun k hk => by
  rw [lst_length] at hk
  exact ⟨g, 0, rfl, by rw [Nat.zero_add, h.cell hk, lst_getD hk]⟩
theorem Row.own {w : World} {g n : Nat} {f : Nat → Int} (h : Row w g n f) {base : Nat} (hb : base ≤ g) (hn : n ≤ 1000000) : OwnI w base (.slice (some ⟨g, 0, none⟩) n n) (lst n f) := by
  obtain ⟨c, hh, hs, hc⟩ := h
  refine ⟨by simp [lst_length], .inr ⟨g, n, c, by rw [lst_length], hb, hh, by simp [lst_length], by unfold maxLen; omega, by simp [hs], ?_⟩⟩
  apply List.ext_getElem?
  intro i
  rw [lst_length, Nat.mul_one, List.getElem?_take]
  by_cases hi : i < n
  · rw [if_pos hi, Array.getElem?_toList, hc i hi, List.getElem?_map]
    simp [lst, hi]
  · rw [if_neg hi, List.getElem?_eq_none (by simp [lst]; omega)]

/-- a store into a slice of the call's own -/
theorem OwnI.store {w : World} {b g c : Nat} {l : List Int} (h : OwnI w b (.slice (some ⟨g, 0, none⟩) l.length c) l) {k : Nat} (_hk : k < l.length) (x : Int) :
    OwnI (w.setCell ⟨g, k, none⟩ (.int .i64 x)) b (.slice (some ⟨g, 0, none⟩) l.length c) (l.set k x) := by
  obtain ⟨h1, h2⟩ := h
  refine ⟨by simp, ?_⟩
  rcases h2 with ⟨e, _⟩ | ⟨g', cap, cur, e, hg, hh, hn, hcap, hs, ht⟩
  · cases e
  · injection e with e1 e2 e3
    injection e1 with e1
    injection e1 with e1 _ _
    subst e1 e3
    refine .inr ⟨g, c, cur.setIfInBounds k (.int .i64 x), by rw [List.length_set], hg, ?_, by rw [List.length_set]; exact hn, hcap, by simpa using hs, ?_⟩
    · simp [World.setCell, Array.getElem?_modify, hh]
    · rw [Array.toList_setIfInBounds, List.take_set, List.length_set, ht, List.map_set]
theorem OwnI.pos {w : World} {b : Nat} {A : Option Addr} {c : Nat} {l : List Int} (h : OwnI w b (.slice A l.length c) l) (hl : 0 < l.length) :
    ∃ g, A = some ⟨g, 0, none⟩ ∧ b ≤ g ∧ g < w.heap.size ∧ ∀ i, w.frozen? ⟨g, i, none⟩ = false := by
  have h' := h
  obtain ⟨h1, h2⟩ := h
  rcases h2 with ⟨e, hn⟩ | ⟨g', cap, cur, e, hg, hh, hn, hcap, hs, ht⟩
  · omega
  · injection e with e1 e2 e3
    subst e1
    refine ⟨g', rfl, hg, (World.ownsRow.lt h' g' rfl).2, fun i => ?_⟩
    simp [World.frozen?, hh]
theorem OwnI.cellAt {w : World} {b g c : Nat} {l : List Int} (h : OwnI w b (.slice (some ⟨g, 0, none⟩) l.length c) l) {k : Nat} (hk : k < l.length) : w.cell? ⟨g, k, none⟩ = some (.int .i64 (l.getD k 0)) := by
  obtain ⟨b', o, hA, hc⟩ := h.ri k hk
  injection hA with hA
  injection hA with e1 e2
  subst e1 e2
  rw [Nat.zero_add] at hc
  exact hc
/-- a store elsewhere -/
theorem OwnI.far {w : World} {b : Nat} {v : Value} {l : List Int} (h : OwnI w b v l) {a : Addr} (ha : v.ownBlock ≠ some a.block) (u : Value) : OwnI (w.setCell a u) b v l := by
  obtain ⟨h1, h2⟩ := h
  refine ⟨h1, ?_⟩
  rcases h2 with h2 | ⟨g', cap, cur, e, hg, hh, hr⟩
  · exact .inl h2
  · refine .inr ⟨g', cap, cur, e, hg, ?_, hr⟩
    rw [Below.heap_setCell w a u g' (fun e' => ha (by rw [e, ← e']; rfl))]
    exact hh
theorem info_u64 : (Tryd.prog.info? 56).map (fun i => (i.zero, i.size, i.bytes)) = some (some (.int .u64 0), 1, 8) := by kernel_rfl
end Go.Proofs.YtncimnfhfomddaaDoor

/- slices.Repeat of one number. -/
namespace Go.Proofs.YtncimnfhfomddaaDoor
open Go.ChangeShapes Go.WideShapes Go.ChangeAt Go.RowKit

/-- v, m times, then zeros -/
def repC (v : Int) (m n : Nat) : List Value := List.replicate m (.int .i64 v) ++ List.replicate (n - m) (.int .i64 0)
theorem repC_length (v : Int) {m n : Nat} (h : m ≤ n) : (repC v m n).length = n := by simp [repC]; omega
theorem repC_splice (v : Int) {m k n : Nat} (h : m + k ≤ n) : splice (repC v m n) m (List.replicate k (.int .i64 v)) = repC v (m + k) n := by
  unfold splice repC
  rw [List.take_left' (by simp), List.drop_append]
  simp only [List.length_replicate, List.drop_replicate]
  have e1 : m - (m + k) = 0 := by omega
  rw [e1, List.replicate_zero, List.nil_append, ← List.append_assoc, List.replicate_append_replicate]
  congr 2
  omega
theorem repC_at {v : Int} {m n j : Nat} (h : j < m) : (repC v m n)[j]? = some (.int .i64 v) := by
  unfold repC
  rw [List.getElem?_append_left (by simpa using h)]
  simp [h]
theorem made_repC (v : Int) (n : Nat) : madeCells #[.int .i64 0] n = (repC v 0 n).toArray := by
  apply Array.toList_inj.1
  rw [toList_madeCells_one]
  simp [repC]

/-- the call returns a new slice of n numbers -/
def RetF (n : Nat) (f : Nat → Int) (w : World) : Ending → World → Prop := fun e w' => ∃ g, e = .returned (.slice (some ⟨g, 0, none⟩) n n) ∧ w.heap.size ≤ g ∧ Row w' g n f ∧ Below w.heap.size w w'
theorem Row.of_repC {w : World} {g n : Nat} {v : Int} {m : Nat} (h : w.heap[g]? = some (.cells (repC v m n).toArray 3 (0, 0))) (hm : n ≤ m) (hmn : m ≤ n) : Row w g n (fun _ => v) :=
  ⟨_, h, by simp [repC_length v hmn], fun i hi => by rw [List.getElem?_toArray]; exact repC_at (by omega)⟩
theorem one_int : (Tryd.prog.info? 3).map (·.size) = some 1 := by kernel_rfl

end Go.Proofs.YtncimnfhfomddaaDoor

/- An append to a slice of the call's own, with the word where the result lies. -/
namespace Go.Proofs.YtncimnfhfomddaaDoor
open Go.ChangeShapes Go.WideShapes Go.ChangeAt Go.RowKit

set_option maxRecDepth 100000 in
/-- 'out = append(out, y)': as wpList_appI; the result lies where out lay, or in a new block -/
theorem wpList_appI2 {ops : Array Oper} {rest : List Oper} {o : Oper} {a : Act} {Q : Exit → Act → World → Prop} (hgd : o.guard = none) (s x : Operand)
    (ho : o.op = .call { callee := .builtin .append, args := #[s, x], argTypes := #[25, 25] })
    (X : World) (base : Nat) (v : Value) (l : List Int) (y : Int) (hown : OwnI X base v l) (hs : a.eval s = v) {gx : Nat} (hx : a.eval x = .slice (some ⟨gx, 0, none⟩) 1 1) (hgx : gx = X.heap.size)
    (hlen : l.length ≤ 1000000) (hbase : base ≤ X.heap.size)
    (h : ∀ v' w', OwnI w' base v' (l ++ [y]) → Below base X w' → X.grownBy w' v.ownBlock → (v'.ownBlock = v.ownBlock ∨ ∀ k, v'.ownBlock = some k → X.heap.size ≤ k) → wpList Tryd.prog ops Q rest (a.put o.dst v') w') :
    wpList Tryd.prog ops Q (o :: rest) a (X.alloc (.cells #[.int .i64 y] 3)) := by
  subst hgx
  obtain ⟨i0, hi, hz0, hz1, hz2⟩ := info_parts info_int
  have hbX : ∀ w', (X.alloc (.cells #[.int .i64 y] 3)).grownBy w' v.ownBlock → Below base X w' ∧ X.grownBy w' v.ownBlock := fun w' hg =>
    ⟨((Below.refl base X).alloc hbase _).grown hg (by simp; omega) (fun k hk => ((World.ownsRow.alloc hown (.cells #[.int .i64 y] 3)).lt k hk).1),
     ⟨hg.os, hg.tape, hg.output, Nat.le_trans (by simp) hg.size, fun k hk hne => (hg.block k (by simp; omega) hne).trans (Below.heap_alloc _ _ _ hk)⟩⟩
  have hgrow : ∀ (A : Option Addr) (cap : Nat), v = .slice A l.length cap → (A = none → l.length = 0 ∧ cap = 0) → cap < l.length + 1 → wpList Tryd.prog ops Q (o :: rest) a (X.alloc (.cells #[.int .i64 y] 3)) := by
    intro A cap hv hA hfull
    have hA2 : ∀ b, A = some b → ∀ j u, (l.map (Value.int .i64))[j]? = some u → (X.alloc (.cells #[.int .i64 y] 3)).cell? (b.add j) = some u := by
      intro b hb j u hj
      rcases hown.2 with ⟨e, hn⟩ | ⟨g, cp, cur, e, hg, r⟩
      · rw [hv, hb] at e; cases e
      · have hc := (World.ownsRow.alloc hown (.cells #[.int .i64 y] 3)).cells (g := g) (by rw [e]; rfl) j u hj
        rw [hv, hb] at e
        injection e with e _ _
        injection e with e
        rw [e]; exact hc
    refine wpList_append_grows (X.alloc (.cells #[.int .i64 y] 3)) hgd s x 25 ho 3 i0 (.int .i64 0) 1 8 Tryd.underlying25 hi hz0 hz1 hz2 rfl (by decide) A l.length cap (l.map (Value.int .i64)) (by rw [hs, hv]) hA (by simp) hA2
      ⟨X.heap.size, 0, none⟩ 1 1 [.int .i64 y] hx rfl (new_cell _ _ _) (by intro u hu; simp at hu; subst hu; rfl) hfull (by unfold maxLen; omega) (by omega) ?_
    intro v' w1 hown' hg
    have hsz : X.heap.size + 1 = (X.alloc (.cells #[.int .i64 y] 3)).heap.size := by simp
    have hg2 : (X.alloc (.cells #[.int .i64 y] 3)).grownBy w1 v.ownBlock := ⟨hg.os, hg.tape, hg.output, hg.size, fun k hk _ => hg.block k hk (by simp)⟩
    obtain ⟨h1, h2⟩ := hbX w1 hg2
    have ho' : OwnI w1 (X.alloc (.cells #[.int .i64 y] 3)).heap.size v' (l ++ [y]) := by unfold OwnI; rw [List.length_append, List.map_append]; exact hown'
    exact h v' w1 (ho'.mono (by omega)) h1 h2 (.inr fun k hk => by have := (World.ownsRow.lt ho' k hk).1; omega)
  rcases hown.2 with ⟨e, hn⟩ | ⟨g, cap, cur, e, hg, hh, hn, hcap, hrest⟩
  · exact hgrow none 0 (by rw [e, hn]) (fun _ => ⟨hn, rfl⟩) (by omega)
  · by_cases hroom : l.length + 1 ≤ cap
    · subst e
      refine wpList_append_fits _ hgd s x 25 ho base 3 i0 1 Tryd.underlying25 hi hz1 g l.length cap (l.map (Value.int .i64)) hs (World.ownsRow.alloc hown _) ⟨X.heap.size, 0, none⟩ 1 1 [.int .i64 y] hx rfl (new_cell _ _ _)
        (by intro u hu; simp at hu; subst hu; rfl) hroom ?_
      intro w1 hown' hg'
      obtain ⟨h1, h2⟩ := hbX w1 hg'
      refine h _ w1 ?_ h1 h2 (.inl rfl)
      unfold OwnI; rw [List.length_append, List.map_append]; exact hown'
    · exact hgrow _ cap e (fun h => by cases h) (by omega)

/-- two slices of the call's own lie apart -/
def Far (v u : Value) : Prop := ∀ k, v.ownBlock = some k → u.ownBlock ≠ some k
theorem Far.symm {v u : Value} (h : Far v u) : Far u v := fun k hk e => h k e hk
theorem Far.appended {X : World} {v v' u : Value} {b : Nat} {l : List Int} (h : Far v u) (hu : OwnI X b u l) (hv : v'.ownBlock = v.ownBlock ∨ ∀ k, v'.ownBlock = some k → X.heap.size ≤ k) : Far v' u := fun k hk e => by
  rcases hv with hv | hv
  · exact h k (by rw [← hv]; exact hk) e
  · have := hv k hk
    have := (World.ownsRow.lt hu k e).2
    omega
theorem Far.fresh {X : World} {v u : Value} {b : Nat} {l : List Int} (hv : OwnI X b v l) (hu : ∀ k, u.ownBlock = some k → X.heap.size ≤ k) : Far v u := fun k hk e => by
  have := hu k e
  have := (World.ownsRow.lt hv k hk).2
  omega
theorem Far.nil (u : Value) : Far (.slice none 0 0) u := fun k hk => by cases hk
theorem OwnI.keep {w w' : World} {b : Nat} {v u : Value} {l : List Int} (h : OwnI w b u l) (hg : w.grownBy w' v.ownBlock) (hf : Far v u) : OwnI w' b u l :=
  World.ownsRow.kept h hg (by
    cases hu : u.ownBlock with
    | none => exact .inl rfl
    | some k => exact .inr (fun e => hf k e.symm hu))
theorem OwnI.block {w : World} {b : Nat} {v : Value} {l : List Int} (h : OwnI w b v l) : ∀ k, v.ownBlock = some k → b ≤ k := fun k hk => (World.ownsRow.lt h k hk).1
end Go.Proofs.YtncimnfhfomddaaDoor
