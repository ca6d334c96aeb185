/- The order of labellings, what complete labellings say, what a node's legality hangs on: plain words. No program in sight. -/
import Derived.Test.YtiljbfeipfdmdaaDoorPlain11b
namespace Go.Proofs.YtiljbfeipfdmdaaDoor
open Go.ChangeShapes Go.WideShapes Go.ChangeAt Go.RowKit

theorem lessB_refl (a : List Int) : lessB a a = true := lessB_iff.2 ⟨rfl, fun _ _ _ => rfl⟩
theorem lessB_trans {a b c : List Int} (h1 : lessB a b = true) (h2 : lessB b c = true) : lessB a c = true := by
  obtain ⟨e1, k1⟩ := lessB_iff.1 h1
  obtain ⟨e2, k2⟩ := lessB_iff.1 h2
  refine lessB_iff.2 ⟨e1.trans e2, fun i hi h => ?_⟩
  have := k1 i hi h
  rw [← this] at h
  rw [k2 i (by omega) h, this]
theorem meetL_len {a b : List Int} {n : Nat} (ha : a.length = n) (hb : b.length = n) : (meetL a b).length = n := by unfold meetL; rw [lst_length]; omega
theorem meetL_at {a b : List Int} {i : Nat} (ha : i < a.length) (hb : i < b.length) : (meetL a b).getD i 0 = meetF a b i := lst_getD (by omega)
theorem meet_left {a b : List Int} {n : Nat} (ha : a.length = n) (hb : b.length = n) : lessB (meetL a b) a = true := by
  have hl := meetL_len ha hb
  refine lessB_iff.2 ⟨by omega, fun i hi h => ?_⟩
  rw [meetL_at (by omega) (by omega)] at h ⊢
  unfold meetF at h ⊢
  by_cases e : a.getD i 0 = b.getD i 0
  · rw [if_pos e]
  · rw [if_neg e] at h; omega
theorem meet_right {a b : List Int} {n : Nat} (ha : a.length = n) (hb : b.length = n) : lessB (meetL a b) b = true := by
  have hl := meetL_len ha hb
  refine lessB_iff.2 ⟨by omega, fun i hi h => ?_⟩
  rw [meetL_at (by omega) (by omega)] at h ⊢
  unfold meetF at h ⊢
  by_cases e : a.getD i 0 = b.getD i 0
  · rw [if_pos e, e]
  · rw [if_neg e] at h; omega
theorem meet_great {a b c : List Int} (h1 : lessB c a = true) (h2 : lessB c b = true) : lessB c (meetL a b) = true := by
  obtain ⟨e1, k1⟩ := lessB_iff.1 h1
  obtain ⟨e2, k2⟩ := lessB_iff.1 h2
  refine lessB_iff.2 ⟨(meetL_len e1.symm e2.symm).symm, fun i hi h => ?_⟩
  rw [meetL_at (by omega) (by omega)]
  unfold meetF
  have p1 := k1 i hi h
  have p2 := k2 i hi h
  rw [if_pos (by rw [p1, p2]), p1]
theorem less_both {a b : List Int} {n : Nat} (ha : labB n a = true) (hb : labB n b = true) : (lessB a b && lessB b a) = eqB a b := by
  obtain ⟨la, _⟩ := labB_iff.1 ha
  obtain ⟨lb, _⟩ := labB_iff.1 hb
  apply Bool.eq_iff_iff.2
  rw [Bool.and_eq_true, eqB_iff]
  constructor
  · rintro ⟨h1, h2⟩
    obtain ⟨_, k1⟩ := lessB_iff.1 h1
    obtain ⟨_, k2⟩ := lessB_iff.1 h2
    rw [list_of_getD la, list_of_getD lb]
    refine lst_congr fun i hi => ?_
    have x1 := labB_at ha hi
    have x2 := labB_at hb hi
    have y1 := k1 i (by omega)
    have y2 := k2 i (by omega)
    by_cases e : a.getD i 0 = 1 ∨ a.getD i 0 = 2
    · exact (y1 e).symm
    · by_cases e' : b.getD i 0 = 1 ∨ b.getD i 0 = 2
      · exact y2 e'
      · omega
  · rintro rfl; exact ⟨lessB_refl _, lessB_refl _⟩
/-- a labelling's In nodes attack exactly the nodes that are Out -/
theorem com_hit {n : Nat} {l : List (Int × Int)} (hv : InR n l) {x : List Int} (h : comB n l x = true) {i : Nat} (hi : i < n) : ((attackersL l i).any fun a => inB (withL x 1) a) = (x.getD i 0 == 2) := by
  obtain ⟨hl, _⟩ := comB_iff.1 h
  have hlen := (labB_iff.1 hl).1
  obtain ⟨_, w2⟩ := com_words hv h hi
  apply Bool.eq_iff_iff.2
  rw [beq_iff_eq, w2, any_att]
  constructor
  · rintro ⟨a, ha, hs⟩
    obtain ⟨k, hk, rfl, hk1⟩ := mem_withL.1 hs
    exact ⟨k, ha, hk1⟩
  · rintro ⟨a, ha, h1⟩
    exact ⟨a, ha, mem_withL.2 ⟨a, by have := (att_lt hv ha).1; omega, rfl, h1⟩⟩
theorem cntL_congr {l : List (Int × Int)} {x y : List Int} {i : Nat} {v : Int} (h : ∀ a, a ∈ attackersL l i → y.getD a.toNat 0 = x.getD a.toNat 0) : cntL l y i v = cntL l x i v := by
  unfold cntL
  congr 1
  exact List.filter_congr fun a ha => by rw [h a ha]
/-- a node's legality hangs on its own label and those of its attackers -/
theorem leg_congr {l : List (Int × Int)} {x y : List Int} {i : Nat} (h0 : y.getD i 0 = x.getD i 0) (h : ∀ a, a ∈ attackersL l i → y.getD a.toNat 0 = x.getD a.toNat 0) : legB l y i = legB l x i := by
  unfold legB
  rw [h0, cntL_congr h, cntL_congr h]
theorem inB_ill {n : Nat} {l : List (Int × Int)} {x : List Int} (hx : labB n x = true) {i : Nat} (hi : i < n) : inB (illL n l x) i = !legB l x i := by
  unfold illL
  rw [if_pos hx]
  apply Bool.eq_iff_iff.2
  rw [inB_iff, mem_nodesB]
  constructor
  · rintro ⟨k, _, h, e⟩
    have : k = i := by omega
    subst this; exact h
  · intro h; exact ⟨i, hi, h, rfl⟩
/-- the row b with what a says at i and at the first k attackers -/
def chgF (l : List (Int × Int)) (a b : List Int) (i k j : Nat) : Int := if j = i ∨ (j : Int) ∈ (attackersL l i).take k then a.getD j 0 else b.getD j 0
theorem chgF_zero (l : List (Int × Int)) (a b : List Int) (i j : Nat) : chgF l a b i 0 j = upd (fun q => b.getD q 0) i (a.getD i 0) j := by
  unfold chgF upd
  by_cases e : j = i
  · subst e; rw [if_pos (Or.inl rfl), if_pos rfl]
  · rw [if_neg (by simp [e]), if_neg e]
theorem chgF_succ {l : List (Int × Int)} {a b : List Int} {i k : Nat} (h : k < (attackersL l i).length) {q : Nat} (hq : (attackersL l i)[k] = (q : Int)) (j : Nat) : chgF l a b i (k + 1) j = upd (chgF l a b i k) q (a.getD q 0) j := by
  unfold chgF upd
  rw [List.take_succ_eq_append_getElem h, hq]
  by_cases e : j = q
  · subst e; rw [if_pos (by simp), if_pos rfl]
  · rw [if_neg e]
    have : (j : Int) ≠ (q : Int) := by omega
    simp [this]
theorem chg_lab {n : Nat} {l : List (Int × Int)} {a b : List Int} (ha : labB n a = true) (hb : labB n b = true) (i k : Nat) : labB n (lst n (chgF l a b i k)) = true := by
  rw [labB_iff]
  refine ⟨lst_length _ _, fun v hv => ?_⟩
  unfold lst at hv
  obtain ⟨j, hj, rfl⟩ := List.mem_map.1 hv
  have hj := List.mem_range.1 hj
  unfold chgF
  split
  · exact labB_at ha hj
  · exact labB_at hb hj
theorem chg_leg {n : Nat} {l : List (Int × Int)} (hv : InR n l) {a b : List Int} {i : Nat} (hi : i < n) : legB l (lst n (chgF l a b i (attackersL l i).length)) i = legB l a i := by
  refine leg_congr ?_ fun y hy => ?_
  · rw [lst_getD hi]; unfold chgF; rw [if_pos (Or.inl rfl)]
  · obtain ⟨q, rfl, hq, _⟩ := attacker_nat hv hy
    rw [Int.toNat_natCast, lst_getD hq]; unfold chgF
    rw [if_pos (Or.inr (by rw [List.take_of_length_le (Nat.le_refl _)]; exact hy))]
end Go.Proofs.YtiljbfeipfdmdaaDoor
