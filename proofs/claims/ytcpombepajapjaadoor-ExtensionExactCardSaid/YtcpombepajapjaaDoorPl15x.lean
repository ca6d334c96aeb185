/- Plain laws of layer 15: the kept labellings are the sets that no other one exceeds. -/
import Derived.Test.YtcpombepajapjaaDoorPlf
import Derived.Test.YtcpombepajapjaaDoorHas15
namespace Go.Proofs.YtcpombepajapjaaDoor
open Go.ChangeShapes Go.WideShapes Go.ChangeAt Go.RowKit

def mostB (n : Nat) (l : List (Int × Int)) (x : List Int) (T : List (List Int)) : Bool := soundL n l x && T.all fun y => !(withinB x y && soundL n l y)
def wideB (n : Nat) (l : List (Int × Int)) (x : List Int) (T : List (List Int)) : Bool := complL n l x && T.all fun y => !(withinB (rangeL n l x) (rangeL n l y) && complL n l y)
theorem most_step {n : Nat} {l : List (Int × Int)} {x : List Int} {S : List (List Int)} {k : Nat} (h : k < S.length) : mostB n l x (S.take (k + 1)) = (mostB n l x (S.take k) && !(withinB x S[k] && soundL n l S[k])) := by
  unfold mostB
  rw [List.take_succ_eq_append_getElem h, List.all_append, Bool.and_assoc]; simp
theorem wide_step {n : Nat} {l : List (Int × Int)} {x : List Int} {S : List (List Int)} {k : Nat} (h : k < S.length) : wideB n l x (S.take (k + 1)) = (wideB n l x (S.take k) && !(withinB (rangeL n l x) (rangeL n l S[k]) && complL n l S[k])) := by
  unfold wideB
  rw [List.take_succ_eq_append_getElem h, List.all_append, Bool.and_assoc]; simp

section
variable {n : Nat} {l : List (Int × Int)}
theorem mem_setsL {x : List Int} (h : setB n x = true) (hn : n ≤ 40) : x ∈ setsL n := by
  unfold setsL
  refine List.mem_map.2 ⟨maskN x, List.mem_range.2 (setB_mask hn h).2, set_nodes h⟩
theorem has_from {K : List (List Int)} {x : List Int} (h : setB n x = true) : K.any (hasP (fromL n l x) x) = true ↔ fromL n l x ∈ K := by
  rw [List.any_eq_true]
  constructor
  · rintro ⟨z, hz, e⟩
    unfold hasP at e
    rw [Bool.and_eq_true, eqB_iff, eqB_iff] at e
    rw [← e.1]; exact hz
  · intro hz
    refine ⟨_, hz, ?_⟩
    unfold hasP
    rw [with_from h, (eqB_iff _ _).2 rfl, (eqB_iff _ _).2 rfl]; rfl
theorem from_len (n : Nat) (l : List (Int × Int)) (x : List Int) : (fromL n l x).length = n := (labB_iff.1 (fromL_lab n l x)).1
theorem within_from {x y : List Int} (hx : setB n x = true) (hy : setB n y = true) : withinB x y = true ↔ (∀ i, i < n → (fromL n l x).getD i 0 = 1 → (fromL n l y).getD i 0 = 1) ∧ ∃ i, i < n ∧ (fromL n l y).getD i 0 = 1 ∧ (fromL n l x).getD i 0 ≠ 1 := by
  have h := within_lab (n := n) (z := fromL n l x) (x := fromL n l y) (v := 1) (u := 1) (from_len ..) (from_len ..)
  rw [with_from hx, with_from hy] at h
  exact h
theorem inside_with {x y : List Int} (hx : setB n x = true) (h : insideB x (withL y 1) = true) {i : Nat} (hi : i < n) (e : (fromL n l x).getD i 0 = 1) : y.getD i 0 = 1 := by
  have h1 : (i : Int) ∈ withL (fromL n l x) 1 := mem_withL.2 ⟨i, by rw [from_len]; exact hi, rfl, e⟩
  rw [with_from hx] at h1
  have h2 := insideB_iff.1 h _ h1
  obtain ⟨j, _, ej, h3⟩ := mem_withL.1 h2
  have : i = j := by omega
  rw [this]; exact h3
theorem with_same {x y : List Int} (hx : x.length = n) (hy : y.length = n) (h : ∀ i, i < n → (x.getD i 0 = 1 ↔ y.getD i 0 = 1)) : withL x 1 = withL y 1 := by
  unfold withL
  rw [hx, hy]
  refine nodesB_congr fun i hi => ?_
  rw [Bool.eq_iff_iff, beq_iff_eq, beq_iff_eq]
  exact h i hi
theorem in_mem (hv : InR n l) {y : List Int} (hy : comB n l y = true) : withL y 1 ∈ setsL n := mem_setsL (with_set hy) hv.1
theorem most_from (hv : InR n l) {x : List Int} (hx : setB n x = true) : mostB n l x (setsL n) = (keptL prefP (compL n l)).any (hasP (fromL n l x) x) := by
  apply Bool.eq_iff_iff.2
  rw [has_from hx]
  unfold mostB
  rw [Bool.and_eq_true, List.all_eq_true]
  constructor
  · rintro ⟨h1, h2⟩
    obtain ⟨y, hy, hin⟩ := adm_above hv h1
    have hc := mem_comp.1 (mem_kept.1 hy).1
    have h3 := h2 _ (in_mem hv hc)
    rw [in_sound hv hc, Bool.and_true, Bool.not_eq_true'] at h3
    have hfy : fromL n l (withL y 1) = y := from_with hv hc
    have hup : ∀ i, i < n → (fromL n l x).getD i 0 = 1 → y.getD i 0 = 1 := fun i hi e => inside_with hx hin hi e
    have hdn : ∀ i, i < n → y.getD i 0 = 1 → (fromL n l x).getD i 0 = 1 := fun i hi e => Classical.byContradiction fun hno => by
      have := (within_from (l := l) hx (with_set hc)).2 (by rw [hfy]; exact ⟨hup, i, hi, e, hno⟩)
      rw [h3] at this
      cases this
    have h4 := with_same (from_len n l x) (comB_len hc) fun i hi => ⟨hup i hi, hdn i hi⟩
    rw [with_from hx] at h4
    rw [h4, hfy]
    exact hy
  · intro hy
    have hk := mem_kept.1 hy
    have hc := mem_comp.1 hk.1
    have h1 := in_sound hv hc
    rw [with_from hx] at h1
    refine ⟨h1, fun y hyS => ?_⟩
    rw [Bool.not_eq_true', Bool.and_eq_false_iff]
    rcases Classical.em (soundL n l y = true) with hs | hs
    · refine .inl ?_
      cases hw : withinB x y
      · rfl
      · exfalso
        have hyset := sets_mem hyS
        obtain ⟨h3, i, hi, h4, h5⟩ := (within_from (l := l) hx hyset).1 hw
        obtain ⟨z, hz, hin⟩ := adm_above hv hs
        have hzc := mem_comp.1 (mem_kept.1 hz).1
        have h6 := hk.2 z (mem_kept.1 hz).1
        rw [(pref_iff (comB_len hzc) (comB_len hc)).2 ⟨fun j hj e => inside_with hyset hin hj (h3 j hj e), i, hi, inside_with hyset hin hi h4, h5⟩] at h6
        cases h6
    · exact .inr (by simpa using hs)
theorem stable_from (hv : InR n l) {x : List Int} (hx : setB n x = true) : stabL n l x = (keptL stabP (compL n l)).any (hasP (fromL n l x) x) := by
  apply Bool.eq_iff_iff.2
  rw [has_from hx]
  unfold stabL
  rw [hx, Bool.true_and, stab_from hv hx, Bool.and_eq_true, mem_kept, mem_comp]
  refine and_congr_right fun hc => ?_
  constructor
  · intro h z hz
    refine (stab_iff (comB_len hc)).2 fun i hi e => ?_
    rw [Bool.not_eq_true'] at h
    have : inB (fromL n l x) 3 = true := by
      rw [inB_iff, ← e]
      have hl : i < (fromL n l x).length := by rw [from_len]; exact hi
      rw [show (fromL n l x).getD i 0 = (fromL n l x)[i] by simp [List.getD, hl]]
      exact List.getElem_mem hl
    rw [h] at this; cases this
  · intro h
    rw [Bool.not_eq_true']
    cases hb : inB (fromL n l x) 3
    · rfl
    · obtain ⟨i, hi, e⟩ := List.mem_iff_getElem.1 ((inB_iff _ _).1 hb)
      exact absurd (show (fromL n l x).getD i 0 = 3 by simp [List.getD, hi, e]) ((stab_iff (comB_len hc)).1 (h _ (mem_comp.2 hc)) i (by rwa [from_len] at hi))
/-- the range of a complete set -/
theorem range_from (hv : InR n l) {x : List Int} (hx : setB n x = true) (hc : comB n l (fromL n l x) = true) : rangeL n l x = nodesB n fun i => !((fromL n l x).getD i 0 == 3) := by
  unfold rangeL
  rw [if_pos hx]
  refine nodesB_congr fun i hi => ?_
  rw [Bool.eq_iff_iff, Bool.not_eq_true', beq_eq_false_iff_ne]
  show has (maskN x ||| attN l (maskN x)) i ↔ _
  have h1 : has (maskN x) i ↔ (fromL n l x).getD i 0 = 1 := by
    have := has_in (i := i) hv hc
    rw [with_from hx] at this
    rw [this]; exact ⟨fun h => h.2, fun h => ⟨hi, h⟩⟩
  rw [has_or, h1, has_attN hv]
  constructor
  · rintro (e | ⟨a, ha, hat⟩)
    · omega
    · have := (com_out hv hc hi).2 ⟨a, (att_lt hv hat).1, hat, by
        have := has_in (i := a) hv hc
        rw [with_from hx] at this
        exact (this.1 ha).2⟩
      omega
  · intro h3
    rcases com_rng hv hc hi with e | e | e
    · exact .inl e
    · obtain ⟨a, ha, hat, e1⟩ := (com_out hv hc hi).1 e
      refine .inr ⟨a, ?_, hat⟩
      have := has_in (i := a) hv hc
      rw [with_from hx] at this
      exact this.2 ⟨ha, e1⟩
    · exact absurd e h3
theorem within_range (hv : InR n l) {x y : List Int} (hx : setB n x = true) (hcx : comB n l (fromL n l x) = true) (hy : setB n y = true) (hcy : comB n l (fromL n l y) = true) :
    withinB (rangeL n l x) (rangeL n l y) = semiP (fromL n l y) (fromL n l x) := by
  apply Bool.eq_iff_iff.2
  rw [range_from hv hx hcx, range_from hv hy hcy, semi_iff (from_len n l y) (from_len n l x)]
  have h := within_lab (n := n) (z := lst n fun i => if (fromL n l x).getD i 0 = 3 then 2 else 1) (x := lst n fun i => if (fromL n l y).getD i 0 = 3 then 2 else 1) (v := 1) (u := 1) (lst_length ..) (lst_length ..)
  have hw : ∀ z : List Int, withL (lst n fun i => if z.getD i 0 = 3 then 2 else 1) 1 = nodesB n fun i => !(z.getD i 0 == 3) := fun z => by
    unfold withL
    rw [lst_length]
    refine nodesB_congr fun i hi => ?_
    rw [lst_getD hi]
    by_cases e : z.getD i 0 = 3
    · rw [if_pos e, beq_iff_eq.2 e]; rfl
    · rw [if_neg e, beq_eq_false_iff_ne.2 e]; rfl
  rw [hw, hw] at h
  rw [h]
  have hv1 : ∀ (z : List Int) (i : Nat), i < n → ((lst n fun i => if z.getD i 0 = 3 then (2 : Int) else 1).getD i 0 = 1 ↔ z.getD i 0 ≠ 3) := fun z i hi => by
    rw [lst_getD hi]
    by_cases e : z.getD i 0 = 3
    · rw [if_pos e]; exact ⟨fun h => absurd h (by decide), fun h => absurd e h⟩
    · rw [if_neg e]; exact ⟨fun _ => e, fun _ => rfl⟩
  constructor
  · rintro ⟨h1, i, hi, h2, h3⟩
    refine ⟨fun j hj e => Classical.byContradiction fun hne => ?_, i, hi, ?_, ?_⟩
    · exact absurd e ((hv1 _ j hj).1 (h1 j hj ((hv1 _ j hj).2 hne)))
    · exact Classical.byContradiction fun hne => h3 ((hv1 _ i hi).2 hne)
    · exact (hv1 _ i hi).1 h2
  · rintro ⟨h1, i, hi, h2, h3⟩
    refine ⟨fun j hj e => (hv1 _ j hj).2 fun e3 => (hv1 _ j hj).1 e (h1 j hj e3), i, hi, (hv1 _ i hi).2 h3, fun e => (hv1 _ i hi).1 e h2⟩
theorem compL_from (hv : InR n l) {x : List Int} (hx : setB n x = true) : complL n l x = comB n l (fromL n l x) := by
  unfold complL
  rw [hx, Bool.true_and, compl_from hv hx]
theorem wide_from (hv : InR n l) {x : List Int} (hx : setB n x = true) : wideB n l x (setsL n) = (keptL semiP (compL n l)).any (hasP (fromL n l x) x) := by
  apply Bool.eq_iff_iff.2
  rw [has_from hx, mem_kept, mem_comp]
  unfold wideB
  rw [Bool.and_eq_true, List.all_eq_true, compL_from hv hx]
  refine and_congr_right fun hc => ⟨fun h z hz => ?_, fun h y hy => ?_⟩
  · have hzc := mem_comp.1 hz
    have hfz : fromL n l (withL z 1) = z := from_with hv hzc
    have h1 := h _ (in_mem hv hzc)
    rw [compL_from hv (with_set hzc), hfz, hzc, Bool.and_true, within_range hv hx hc (with_set hzc) (by rw [hfz]; exact hzc), hfz, Bool.not_eq_true'] at h1
    exact h1
  · have hys := sets_mem hy
    rw [Bool.not_eq_true', Bool.and_eq_false_iff, compL_from hv hys]
    rcases Classical.em (comB n l (fromL n l y) = true) with hcy | hcy
    · refine .inl ?_
      rw [within_range hv hx hc hys hcy]
      exact h _ (mem_comp.2 hcy)
    · exact .inr (by simpa using hcy)
theorem sets_nodup (n : Nat) : (setsL n).Nodup := by
  unfold setsL
  refine List.pairwise_map.2 (List.Pairwise.imp_of_mem ?_ (List.nodup_range (n := 2 ^ n)))
  intro a b ha hb hne e
  exact hne (nodes_inj (List.mem_range.1 ha) (List.mem_range.1 hb) e)
/-- as many sets as labellings -/
theorem count_from (hv : InR n l) {K : List (List Int)} (hK : K.Nodup) (hc : ∀ y ∈ K, comB n l y = true) (P : List Int → Bool) (h : ∀ x ∈ setsL n, P x = K.any (hasP (fromL n l x) x)) : ((setsL n).filter P).length = K.length := by
  have h1 : (((setsL n).filter P).map (fromL n l)).Nodup := by
    refine List.pairwise_map.2 (List.Pairwise.imp_of_mem ?_ ((sets_nodup n).filter P))
    intro a b ha hb hne e
    have ha' := sets_mem (List.mem_filter.1 ha).1
    have hb' := sets_mem (List.mem_filter.1 hb).1
    exact hne (by rw [← with_from (l := l) ha', ← with_from (l := l) hb', e])
  have h2 := (List.perm_ext_iff_of_nodup h1 hK).2 fun y => by
    rw [List.mem_map]
    constructor
    · rintro ⟨x, hx, rfl⟩
      obtain ⟨hx1, hx2⟩ := List.mem_filter.1 hx
      rw [h x hx1] at hx2
      exact (has_from (sets_mem hx1)).1 hx2
    · intro hy
      have hcy := hc y hy
      have hm := in_mem hv hcy
      have hf : fromL n l (withL y 1) = y := from_with hv hcy
      exact ⟨withL y 1, List.mem_filter.2 ⟨hm, by rw [h _ hm]; exact (has_from (with_set hcy)).2 (by rw [hf]; exact hy)⟩, hf⟩
  have := h2.length_eq
  rwa [List.length_map] at this
theorem kept_nodup (p : List Int → List Int → Bool) : (keptL p (compL n l)).Nodup := (comp_nodup n l).filter _
end
end Go.Proofs.YtcpombepajapjaaDoor
