/- Plain laws of layer 15: which complete labellings are kept. -/
import Derived.Test.YtajocnhebfpjaaaDoorExt3
import Derived.Test.YtajocnhebfpjaaaDoorPlain13d
import Derived.Test.YtajocnhebfpjaaaDoorPl14q
namespace Go.Proofs.YtajocnhebfpjaaaDoor
open Go.ChangeShapes Go.WideShapes Go.ChangeAt Go.RowKit

theorem places_one (x : List Int) (v : Int) : placesL x [v] = withL x v := by unfold placesL; simp
theorem within_iff {x y : List Int} : withinB x y = true ↔ x.length < y.length ∧ ∀ v ∈ x, v ∈ y := by
  unfold withinB
  rw [Bool.and_eq_true, decide_eq_true_iff, insideB_iff]
theorem mem_kept {p : List Int → List Int → Bool} {L : List (List Int)} {x : List Int} : x ∈ keptL p L ↔ x ∈ L ∧ ∀ z ∈ L, p z x = false := by
  unfold keptL
  rw [List.mem_filter]
  refine and_congr_right fun _ => ?_
  rw [Bool.not_eq_true', List.any_eq_false]
  exact ⟨fun h z hz => by simpa using h z hz, fun h z hz => by simpa using h z hz⟩
/-- the number of nodes with a label -/
def labC (n : Nat) (x : List Int) (v : Int) : Nat := ((List.range n).filter fun i => x.getD i 0 == v).length
theorem withL_len {n : Nat} {x : List Int} (h : x.length = n) (v : Int) : (withL x v).length = labC n x v := by unfold withL nodesB labC; rw [List.length_map, h]
theorem labC_le (n : Nat) (x : List Int) (v : Int) : labC n x v ≤ n := by unfold labC; have := List.length_filter_le (fun i => x.getD i 0 == v) (List.range n); rwa [List.length_range] at this
theorem labC_lt {n : Nat} {x z : List Int} {v u : Int} (h : ∀ i, i < n → z.getD i 0 = v → x.getD i 0 = u) {i : Nat} (hi : i < n) (h1 : x.getD i 0 = u) (h2 : z.getD i 0 ≠ v) : labC n z v < labC n x u := by
  unfold labC
  refine filter_length_lt (fun j hj hz => ?_) ⟨i, List.mem_range.2 hi, by simpa using h1, by simpa using h2⟩
  have := h j (List.mem_range.1 hj) (by simpa using hz)
  simpa using this
theorem labC_le2 {n : Nat} {x z : List Int} {v u : Int} (h : ∀ i, i < n → z.getD i 0 = v → x.getD i 0 = u) : labC n z v ≤ labC n x u := by
  unfold labC
  rw [← List.countP_eq_length_filter, ← List.countP_eq_length_filter]
  refine List.countP_mono_left fun j hj hz => ?_
  have := h j (List.mem_range.1 hj) (by simpa using hz)
  simpa using this
/-- one labelling's nodes with a label lie strictly within another's -/
theorem within_lab {n : Nat} {x z : List Int} {v u : Int} (hz : z.length = n) (hx : x.length = n) : withinB (withL z v) (withL x u) = true ↔ (∀ i, i < n → z.getD i 0 = v → x.getD i 0 = u) ∧ ∃ i, i < n ∧ x.getD i 0 = u ∧ z.getD i 0 ≠ v := by
  rw [within_iff, withL_len hz, withL_len hx]
  have hin : (∀ y ∈ withL z v, y ∈ withL x u) ↔ ∀ i, i < n → z.getD i 0 = v → x.getD i 0 = u := by
    constructor
    · intro h i hi hv
      obtain ⟨j, _, hj, h2⟩ := mem_withL.1 (h i (mem_withL.2 ⟨i, by omega, rfl, hv⟩))
      have : i = j := by omega
      subst this; exact h2
    · intro h y hy
      obtain ⟨i, hi, rfl, h2⟩ := mem_withL.1 hy
      exact mem_withL.2 ⟨i, by omega, rfl, h i (by omega) h2⟩
  rw [hin]
  constructor
  · rintro ⟨h1, h2⟩
    refine ⟨h2, Classical.byContradiction fun hn => ?_⟩
    have : labC n x u ≤ labC n z v := labC_le2 fun i hi hu => Classical.byContradiction fun hv => hn ⟨i, hi, hu, hv⟩
    omega
  · rintro ⟨h2, i, hi, h3, h4⟩
    exact ⟨labC_lt h2 hi h3 h4, h2⟩
theorem pref_iff {n : Nat} {x z : List Int} (hz : z.length = n) (hx : x.length = n) : prefP z x = true ↔ (∀ i, i < n → x.getD i 0 = 1 → z.getD i 0 = 1) ∧ ∃ i, i < n ∧ z.getD i 0 = 1 ∧ x.getD i 0 ≠ 1 := by
  unfold prefP; rw [places_one, places_one]; exact within_lab hx hz
theorem semi_iff {n : Nat} {x z : List Int} (hz : z.length = n) (hx : x.length = n) : semiP z x = true ↔ (∀ i, i < n → z.getD i 0 = 3 → x.getD i 0 = 3) ∧ ∃ i, i < n ∧ x.getD i 0 = 3 ∧ z.getD i 0 ≠ 3 := by
  unfold semiP; rw [places_one, places_one]; exact within_lab hz hx
theorem stab_iff {n : Nat} {x z : List Int} (hx : x.length = n) : stabP z x = false ↔ ∀ i, i < n → x.getD i 0 ≠ 3 := by
  unfold stabP
  rw [places_one, decide_eq_false_iff_not]
  constructor
  · intro h i hi e
    exact h (List.length_pos_of_mem (mem_withL.2 ⟨i, by omega, rfl, e⟩))
  · intro h hp
    obtain ⟨y, hy⟩ := List.exists_mem_of_length_pos hp
    obtain ⟨i, hi, _, e⟩ := mem_withL.1 hy
    exact h i (by omega) e

section
variable {n : Nat} {l : List (Int × Int)}
/-- what a complete labelling says of a node, with attackers as numbers -/
theorem com_nat (hv : InR n l) {y : List Int} (hc : comB n l y = true) {i : Nat} (hi : i < n) :
    (y.getD i 0 = 1 ∧ ∀ a, att l a i → y.getD a 0 = 2) ∨ (y.getD i 0 = 2 ∧ ∃ a, a < n ∧ att l a i ∧ y.getD a 0 = 1) ∨ (y.getD i 0 = 3 ∧ (∃ a, a < n ∧ att l a i ∧ y.getD a 0 = 3) ∧ ∀ a, att l a i → y.getD a 0 = 2 ∨ y.getD a 0 = 3) := by
  rcases com_att hv hc hi with ⟨e, h⟩ | ⟨e, k, hk, h⟩ | ⟨e, ⟨k, hk, h⟩, h'⟩
  · exact .inl ⟨e, fun a ha => by have := h a (mem_attackersL.2 ha); simpa using this⟩
  · obtain ⟨j, rfl, hj, haj⟩ := mem_att hv hk
    exact .inr (.inl ⟨e, j, hj, haj, by simpa using h⟩)
  · obtain ⟨j, rfl, hj, haj⟩ := mem_att hv hk
    exact .inr (.inr ⟨e, ⟨j, hj, haj, by simpa using h⟩, fun a ha => by have := h' a (mem_attackersL.2 ha); simpa using this⟩)
theorem com_in (hv : InR n l) {y : List Int} (hc : comB n l y = true) {i a : Nat} (hi : i < n) (h : y.getD i 0 = 1) (ha : att l a i) : y.getD a 0 = 2 := by
  rcases com_nat hv hc hi with ⟨_, h'⟩ | ⟨e, _⟩ | ⟨e, _⟩
  · exact h' a ha
  · omega
  · omega
theorem com_out (hv : InR n l) {y : List Int} (hc : comB n l y = true) {i : Nat} (hi : i < n) : y.getD i 0 = 2 ↔ ∃ a, a < n ∧ att l a i ∧ y.getD a 0 = 1 := by
  rcases com_nat hv hc hi with ⟨e, h'⟩ | ⟨e, h'⟩ | ⟨e, _, h'⟩
  · exact ⟨fun h => by omega, fun ⟨a, _, ha, h⟩ => by have := h' a ha; omega⟩
  · exact ⟨fun _ => h', fun _ => e⟩
  · exact ⟨fun h => by omega, fun ⟨a, _, ha, h⟩ => by have := h' a ha; omega⟩
theorem com_rng (hv : InR n l) {y : List Int} (hc : comB n l y = true) {i : Nat} (hi : i < n) : y.getD i 0 = 1 ∨ y.getD i 0 = 2 ∨ y.getD i 0 = 3 := by
  rcases com_nat hv hc hi with ⟨e, _⟩ | ⟨e, _⟩ | ⟨e, _⟩
  · exact .inl e
  · exact .inr (.inl e)
  · exact .inr (.inr e)
theorem comB_len {y : List Int} (hc : comB n l y = true) : y.length = n := comp_len (mem_comp.2 hc)
/-- more nodes In, fewer undecided -/
theorem semi_of_pref (hv : InR n l) {x z : List Int} (hx : comB n l x = true) (hz : comB n l z = true) (h : prefP z x = true) : semiP z x = true := by
  obtain ⟨h1, i, hi, h2, h3⟩ := (pref_iff (comB_len hz) (comB_len hx)).1 h
  refine (semi_iff (comB_len hz) (comB_len hx)).2 ⟨fun j hj hj3 => ?_, i, hi, ?_, by omega⟩
  · rcases com_rng hv hx hj with e | e | e
    · have := h1 j hj e; omega
    · obtain ⟨a, ha, hat, h4⟩ := (com_out hv hx hj).1 e
      have := (com_out hv hz hj).2 ⟨a, ha, hat, h1 a ha h4⟩
      omega
    · exact e
  · rcases com_rng hv hx hi with e | e | e
    · omega
    · obtain ⟨a, ha, hat, h4⟩ := (com_out hv hx hi).1 e
      have := com_in hv hz hi h2 hat
      have := h1 a ha h4
      omega
    · exact e
theorem stab_semi {x : List Int} (h : x ∈ keptL stabP (compL n l)) : x ∈ keptL semiP (compL n l) := by
  obtain ⟨h1, h2⟩ := mem_kept.1 h
  have hc := comp_len h1
  have h3 := (stab_iff hc).1 (h2 x h1)
  refine mem_kept.2 ⟨h1, fun z hz => ?_⟩
  cases hs : semiP z x
  · rfl
  · obtain ⟨_, i, hi, e, _⟩ := (semi_iff (comp_len hz) hc).1 hs
    exact absurd e (h3 i hi)
theorem semi_pref (hv : InR n l) {x : List Int} (h : x ∈ keptL semiP (compL n l)) : x ∈ keptL prefP (compL n l) := by
  obtain ⟨h1, h2⟩ := mem_kept.1 h
  refine mem_kept.2 ⟨h1, fun z hz => ?_⟩
  cases hs : prefP z x
  · rfl
  · have := semi_of_pref hv (mem_comp.1 h1) (mem_comp.1 hz) hs
    rw [h2 z hz] at this
    cases this
/-- above each there is one that is kept -/
theorem kept_above {p : List Int → List Int → Bool} {L : List (List Int)} (f : List Int → Nat) (R : List Int → List Int → Prop) (hr : ∀ x, R x x) (ht : ∀ {a b c}, R a b → R b c → R a c) (hp : ∀ z ∈ L, ∀ x ∈ L, p z x = true → f z < f x ∧ R x z) :
    ∀ (k : Nat) (x : List Int), x ∈ L → f x ≤ k → ∃ y ∈ keptL p L, R x y
  | k, x, hx, hk => by
    rcases Classical.em (∀ z ∈ L, p z x = false) with h | h
    · exact ⟨x, mem_kept.2 ⟨hx, h⟩, hr x⟩
    · obtain ⟨z, hz, hpz⟩ : ∃ z, z ∈ L ∧ p z x = true := Classical.byContradiction fun hn => h fun z hz => by
        cases hq : p z x
        · rfl
        · exact absurd ⟨z, hz, hq⟩ hn
      obtain ⟨h1, h2⟩ := hp z hz x hx hpz
      match k, hk with
      | 0, hk => omega
      | k + 1, hk =>
        obtain ⟨y, hy, hR⟩ := kept_above f R hr ht hp k z hz (by omega)
        exact ⟨y, hy, ht h2 hR⟩
theorem semi_above {x : List Int} (hx : x ∈ compL n l) : ∃ y ∈ keptL semiP (compL n l), ∀ i, i < n → y.getD i 0 = 3 → x.getD i 0 = 3 :=
  kept_above (fun x => labC n x 3) (fun x y => ∀ i, i < n → y.getD i 0 = 3 → x.getD i 0 = 3) (fun x i hi h => h) (fun h k i hi e => h i hi (k i hi e)) (fun z hz x hx h => by
    obtain ⟨h1, i, hi, h2, h3⟩ := (semi_iff (comp_len hz) (comp_len hx)).1 h
    exact ⟨labC_lt h1 hi h2 h3, h1⟩) _ x hx (Nat.le_refl _)
theorem pref_above {x : List Int} (hx : x ∈ compL n l) : ∃ y ∈ keptL prefP (compL n l), ∀ i, i < n → x.getD i 0 = 1 → y.getD i 0 = 1 :=
  kept_above (fun x => n - labC n x 1) (fun x y => ∀ i, i < n → x.getD i 0 = 1 → y.getD i 0 = 1) (fun x i hi h => h) (fun h k i hi e => k i hi (h i hi e)) (fun z hz x hx h => by
    obtain ⟨h1, i, hi, h2, h3⟩ := (pref_iff (comp_len hz) (comp_len hx)).1 h
    have := labC_lt h1 hi h2 h3
    have := labC_le n z 1
    exact ⟨by omega, h1⟩) _ x hx (Nat.le_refl _)
theorem semi_some (hv : InR n l) : 0 < (keptL semiP (compL n l)).length := by
  obtain ⟨x, hx⟩ := List.exists_mem_of_length_pos (comp_some hv)
  obtain ⟨y, hy, _⟩ := semi_above hx
  exact List.length_pos_of_mem hy
theorem stab_is_semi (h : (keptL stabP (compL n l)).length ≠ 0) : keptL stabP (compL n l) = keptL semiP (compL n l) := by
  obtain ⟨y, hy⟩ := List.exists_mem_of_length_pos (Nat.pos_of_ne_zero h)
  obtain ⟨hy1, hy2⟩ := mem_kept.1 hy
  have hy3 := (stab_iff (comp_len hy1)).1 (hy2 y hy1)
  unfold keptL
  refine List.filter_congr fun x hx => ?_
  have e1 : x ∈ keptL stabP (compL n l) → x ∈ keptL semiP (compL n l) := stab_semi
  have e2 : x ∈ keptL semiP (compL n l) → x ∈ keptL stabP (compL n l) := fun hs => by
    obtain ⟨h1, h2⟩ := mem_kept.1 hs
    refine mem_kept.2 ⟨h1, fun z hz => (stab_iff (comp_len h1)).2 fun i hi e => ?_⟩
    have := h2 y hy1
    have h4 : semiP y x = true := (semi_iff (comp_len hy1) (comp_len h1)).2 ⟨fun j hj e => absurd e (hy3 j hj), i, hi, e, hy3 i hi⟩
    rw [this] at h4; cases h4
  unfold keptL at e1 e2
  simp only [List.mem_filter] at e1 e2
  cases hb : !((compL n l).any fun z => stabP z x) <;> cases hb2 : !((compL n l).any fun z => semiP z x)
  · rfl
  · rw [(e2 ⟨hx, hb2⟩).2] at hb; cases hb
  · rw [(e1 ⟨hx, hb⟩).2] at hb2; cases hb2
  · rfl
end
end Go.Proofs.YtajocnhebfpjaaaDoor
