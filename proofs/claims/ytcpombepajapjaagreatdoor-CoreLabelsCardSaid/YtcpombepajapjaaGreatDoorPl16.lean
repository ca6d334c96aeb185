/- Plain laws of layer 16: what is In in all lists; the greatest admissible set in it. -/
import Derived.Test.YtcpombepajapjaaGreatDoorPlf
namespace Go.Proofs.YtcpombepajapjaaGreatDoor
open Go.ChangeShapes Go.WideShapes Go.ChangeAt Go.RowKit

/-- what is In in all lists -/
def commonL (L : List (List Int)) : List Int := nodesB (L.headD []).length fun i => L.all fun y => atB y (i : Int)
/-- the labelling of the greatest admissible set in what all lists have in common, or the error -/
def coreR (p : List Int → List Int → Bool) (N : Int) (l : List (Int × Int)) : List Int × Int :=
  if (bestR p N l).2 = 0 then (fromL N.toNat l (shrinkL N.toNat l (commonL (bestR p N l).1)).1, 0) else ([], (bestR p N l).2)
def coreS (n : Nat) (l : List (Int × Int)) (L : List (List Int)) : Nat := shrinkN n l (maskN (commonL L))
def coreE (n : Nat) (l : List (Int × Int)) (L : List (List Int)) : List Int := nodesB n (coreS n l L).testBit
def coreL (n : Nat) (l : List (Int × Int)) (L : List (List Int)) : List Int := fromL n l (coreE n l L)

section
variable {n : Nat} {l : List (Int × Int)} {L : List (List Int)}
theorem atB_nat {y : List Int} {i : Nat} : atB y (i : Int) = true ↔ i < y.length ∧ y.getD i 0 = 1 := by
  unfold atB
  rw [Bool.and_eq_true, Bool.and_eq_true, decide_eq_true_iff, decide_eq_true_iff, beq_iff_eq, Int.toNat_natCast]
  omega
theorem common_len (h : ∀ y ∈ L, y.length = n) : (L.headD []).length ≤ n := by
  cases L with
  | nil => simp
  | cons x L => have := h x (by simp); simp [this]
theorem common_set (h : ∀ y ∈ L, y.length = n) : setB n (commonL L) = true := by
  unfold commonL
  cases L with
  | nil => rfl
  | cons x L =>
    rw [show ((x :: L).headD []).length = n from h x (by simp)]
    exact setB_nodes n _
theorem has_common (h : ∀ y ∈ L, y.length = n) (h0 : L ≠ []) {i : Nat} : has (maskN (commonL L)) i ↔ i < n ∧ ∀ y ∈ L, y.getD i 0 = 1 := by
  cases L with
  | nil => exact absurd rfl h0
  | cons x L =>
    have hx : ((x :: L).headD []).length = n := h x (by simp)
    unfold commonL
    rw [hx, mask_nodesB, List.all_eq_true]
    refine and_congr_right fun hi => ⟨fun k y hy => (atB_nat.1 (k y hy)).2, fun k y hy => atB_nat.2 ⟨by rw [h y hy]; exact hi, k y hy⟩⟩
theorem com_lens (hL : ∀ y ∈ L, comB n l y = true) : ∀ y ∈ L, y.length = n := fun y hy => comB_len (hL y hy)
theorem common_lt (hv : InR n l) (hL : ∀ y ∈ L, comB n l y = true) : maskN (commonL L) < 2 ^ n := (setB_mask hv.1 (common_set (com_lens hL))).2
theorem common_free (hv : InR n l) (hL : ∀ y ∈ L, comB n l y = true) : freeB l (maskN (commonL L)) = true := by
  refine (freeB_iff hv _).2 fun a b ha hb hab => ?_
  rcases Classical.em (L = []) with e | h0
  · subst e
    have h : maskN (commonL []) = 0 := rfl
    rw [h] at ha
    simp [has] at ha
  · obtain ⟨x, hx⟩ := List.exists_mem_of_ne_nil L h0
    obtain ⟨_, h1⟩ := (has_common (com_lens hL) h0).1 ha
    obtain ⟨hb2, h2⟩ := (has_common (com_lens hL) h0).1 hb
    have := com_in hv (hL x hx) hb2 (h2 x hx) hab
    have := h1 x hx
    omega
theorem core_shrink (hv : InR n l) (hL : ∀ y ∈ L, comB n l y = true) : shrinkL n l (commonL L) = (coreE n l L, 0) := by
  unfold shrinkL
  rw [if_pos (common_set (com_lens hL)), if_pos (common_free hv hL)]
  rfl
theorem coreS_lt (hv : InR n l) (hL : ∀ y ∈ L, comB n l y = true) : coreS n l L < 2 ^ n := shrinkN_lt (common_lt hv hL)
theorem core_sound (hv : InR n l) (hL : ∀ y ∈ L, comB n l y = true) : soundB n l (coreS n l L) = true ∧ sub (coreS n l L) (maskN (commonL L)) := shrink_sound hv (common_lt hv hL) (common_free hv hL)
theorem core_in (hv : InR n l) (hL : ∀ y ∈ L, comB n l y = true) (h0 : L ≠ []) {i : Nat} (h : has (coreS n l L) i) : i < n ∧ ∀ y ∈ L, y.getD i 0 = 1 :=
  (has_common (com_lens hL) h0).1 ((core_sound hv hL).2 i h)
theorem core_most (hv : InR n l) (hL : ∀ y ∈ L, comB n l y = true) (h0 : L ≠ []) {m : Nat} (hm : m < 2 ^ n) (hs : soundB n l m = true) (h : ∀ i, has m i → ∀ y ∈ L, y.getD i 0 = 1) : sub m (coreS n l L) :=
  shrink_most hv hm hs fun i hi => (has_common (com_lens hL) h0).2 ⟨has_lt hm hi, h i hi⟩
theorem core_fix (hv : InR n l) (hL : ∀ y ∈ L, comB n l y = true) (h0 : L ≠ []) : stepN n l (coreS n l L) = coreS n l L := by
  have hm := coreS_lt hv hL
  obtain ⟨hs, _⟩ := core_sound hv hL
  have hss := ((soundB_iff hv hm).1 hs).2
  have hk := stepN_lt n l (coreS n l L)
  obtain ⟨h1, _⟩ := sound_add hv hm hk hs hss (fun _ h => h)
  have h2 : sub (stepN n l (coreS n l L)) (coreS n l L) := core_most hv hL h0 hk h1 fun i hi y hy => by
    have h3 : sub (coreS n l L) (maskN (withL y 1)) := fun j hj => (has_in hv (hL y hy)).2 ⟨has_lt hm hj, (core_in hv hL h0 hj).2 y hy⟩
    have h4 := stepN_mono hv h3 i hi
    rw [in_fix hv (hL y hy)] at h4
    exact ((has_in hv (hL y hy)).1 h4).2
  exact has_ext fun j => ⟨h2 j, hss j⟩
theorem core_mask (hv : InR n l) (hL : ∀ y ∈ L, comB n l y = true) : maskN (coreE n l L) = coreS n l L := mask_nodes (coreS_lt hv hL)
theorem core_com (hv : InR n l) (hL : ∀ y ∈ L, comB n l y = true) (h0 : L ≠ []) : comB n l (coreL n l L) = true := by
  unfold coreL
  rw [← compl_from hv (x := coreE n l L) (setB_nodes n _), core_mask hv hL]
  exact complB_iff.2 ⟨(core_sound hv hL).1, core_fix hv hL h0⟩
theorem core_with : withL (coreL n l L) 1 = coreE n l L := with_from (setB_nodes n _)
theorem core_at (hv : InR n l) (hL : ∀ y ∈ L, comB n l y = true) (h0 : L ≠ []) {i : Nat} (hi : i < n) : (coreL n l L).getD i 0 = 1 ↔ has (coreS n l L) i := by
  have h := has_in (i := i) hv (core_com hv hL h0)
  rw [core_with, core_mask hv hL] at h
  rw [h]
  exact ⟨fun k => ⟨hi, k⟩, fun k => k.2⟩
/-- the one with fewer nodes In is less committed -/
theorem less_com (hv : InR n l) {x y : List Int} (hx : comB n l x = true) (hy : comB n l y = true) (h : ∀ i, i < n → x.getD i 0 = 1 → y.getD i 0 = 1) : lessB x y = true := by
  refine lessB_iff.2 ⟨by rw [comB_len hx, comB_len hy], fun i hi he => ?_⟩
  rw [comB_len hx] at hi
  rcases he with e | e
  · rw [e]; exact h i hi e
  · rw [e]
    obtain ⟨a, ha, hat, h1⟩ := (com_out hv hx hi).1 e
    exact (com_out hv hy hi).2 ⟨a, ha, hat, h a ha h1⟩
theorem core_less (hv : InR n l) (hL : ∀ y ∈ L, comB n l y = true) {y : List Int} (hy : y ∈ L) : lessB (coreL n l L) y = true := by
  have h0 : L ≠ [] := List.ne_nil_of_mem hy
  exact less_com hv (core_com hv hL h0) (hL y hy) fun i hi e => (core_in hv hL h0 ((core_at hv hL h0 hi).1 e)).2 y hy
theorem core_sub (hv : InR n l) {K : List (List Int)} (hL : ∀ y ∈ L, comB n l y = true) (h0 : L ≠ []) (hK : ∀ y ∈ K, y ∈ L) (k0 : K ≠ []) : sub (coreS n l L) (coreS n l K) :=
  core_most hv (fun y hy => hL y (hK y hy)) k0 (coreS_lt hv hL) (core_sound hv hL).1 fun _ hi y hy => (core_in hv hL h0 hi).2 y (hK y hy)
theorem core_core (hv : InR n l) {K : List (List Int)} (hL : ∀ y ∈ L, comB n l y = true) (h0 : L ≠ []) (hK : ∀ y ∈ K, y ∈ L) (k0 : K ≠ []) : lessB (coreL n l L) (coreL n l K) = true :=
  less_com hv (core_com hv hL h0) (core_com hv (fun y hy => hL y (hK y hy)) k0) fun i hi e => (core_at hv (fun y hy => hL y (hK y hy)) k0 hi).2 (core_sub hv hL h0 hK k0 i ((core_at hv hL h0 hi).1 e))
/-- one labelling alone -/
theorem core_one (hv : InR n l) (hL : ∀ y ∈ L, comB n l y = true) {x : List Int} (hx : x ∈ L) (h1 : ∀ y ∈ L, y = x) : coreL n l L = x := by
  have h0 : L ≠ [] := List.ne_nil_of_mem hx
  have hc := hL x hx
  have hs : coreS n l L = maskN (withL x 1) := has_ext fun j => ⟨fun h => (has_in hv hc).2 ⟨has_lt (coreS_lt hv hL) h, (core_in hv hL h0 h).2 x hx⟩, fun h =>
    core_most hv hL h0 (setB_mask hv.1 (with_set hc)).2 (complB_iff.1 (in_compl hv hc)).1 (fun i hi y hy => by rw [h1 y hy]; exact ((has_in hv hc).1 hi).2) j h⟩
  unfold coreL coreE
  rw [hs, set_nodes (with_set hc)]
  exact from_with hv hc
/-- a set within all lists -/
theorem core_all (hv : InR n l) (hL : ∀ y ∈ L, comB n l y = true) (h0 : L ≠ []) {x : List Int} (hx : soundL n l x = true) : (L.all fun y => insideB x (withL y 1)) = insideB x (coreE n l L) := by
  have hx' : setB n x = true ∧ soundB n l (maskN x) = true := by unfold soundL at hx; rwa [Bool.and_eq_true] at hx
  have hset := hx'.1
  have hm := setB_mask hv.1 hset
  apply Bool.eq_iff_iff.2
  rw [List.all_eq_true]
  have hE : insideB x (coreE n l L) = true ↔ sub (maskN x) (coreS n l L) := by
    have := insideB_nodes (n := n) (a := maskN x) (b := coreS n l L) hm.2
    rw [set_nodes hset] at this
    exact this
  have hY : ∀ y ∈ L, insideB x (withL y 1) = true ↔ sub (maskN x) (maskN (withL y 1)) := fun y hy => by
    have := insideB_nodes (n := n) (a := maskN x) (b := maskN (withL y 1)) hm.2
    rw [set_nodes hset, set_nodes (with_set (hL y hy))] at this
    exact this
  rw [hE]
  constructor
  · intro h
    exact core_most hv hL h0 hm.2 hx'.2 fun i hi y hy => ((has_in hv (hL y hy)).1 ((hY y hy).1 (h y hy) i hi)).2
  · intro h y hy
    refine (hY y hy).2 fun i hi => (has_in hv (hL y hy)).2 (⟨?_, ?_⟩)
    · exact (core_in hv hL h0 (h i hi)).1
    · exact (core_in hv hL h0 (h i hi)).2 y hy
end
theorem kept_com {p : List Int → List Int → Bool} {n : Nat} {l : List (Int × Int)} : ∀ y ∈ keptL p (compL n l), comB n l y = true := fun _ hy => mem_comp.1 (mem_kept.1 hy).1
theorem coreR_ok {p : List Int → List Int → Bool} {n : Nat} {l : List (Int × Int)} (hv : Vld n l) : coreR p n l = if 200 < (compL n l).length then ([], 2) else (coreL n l (keptL p (compL n l)), 0) := by
  unfold coreR
  rw [bestR_ok hv.valE]
  split
  · rw [if_neg (by simp)]
  · rw [if_pos rfl]
    simp only [Int.toNat_natCast]
    rw [core_shrink hv.1 kept_com]
    rfl
end Go.Proofs.YtcpombepajapjaaGreatDoor
