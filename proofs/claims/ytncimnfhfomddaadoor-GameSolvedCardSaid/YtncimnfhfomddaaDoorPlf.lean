import Derived.Test.YtncimnfhfomddaaDoorExt
import Derived.Test.YtncimnfhfomddaaDoorPlain13d
import Derived.Test.YtncimnfhfomddaaDoorPl14q
/- Plain laws of layer 15: which complete labellings are kept. -/
namespace Go.Proofs.YtncimnfhfomddaaDoor
open Go.ChangeShapes Go.WideShapes Go.ChangeAt Go.RowKit

theorem places_one (x : List Int) (v : Int) : placesL x [v] = withL x v := by unfold placesL; simp
theorem bestR_ok {p : List Int → List Int → Bool} {n : Nat} {l : List (Int × Int)} (hv : valE n l = 0) : bestR p n l = if 200 < (compL n l).length then ([], 2) else (keptL p (compL n l), 0) := by
  unfold bestR
  rw [compR_ok hv]
  split <;> simp
theorem kept_len {p : List Int → List Int → Bool} {L : List (List Int)} : (keptL p L).length ≤ L.length := List.length_filter_le _ _
theorem within_iff {x y : List Int} : withinB x y = true ↔ x.length < y.length ∧ ∀ v ∈ x, v ∈ y := by
  unfold withinB
  rw [Bool.and_eq_true, decide_eq_true_iff, insideB_iff]
theorem mem_kept {p : List Int → List Int → Bool} {L : List (List Int)} {x : List Int} : x ∈ keptL p L ↔ x ∈ L ∧ ∀ z ∈ L, p z x = false := by
  unfold keptL
  rw [List.mem_filter]
  refine and_congr_right fun _ => ?_
  rw [Bool.not_eq_true', List.any_eq_false]
  exact ⟨fun h z hz => by simpa using h z hz, fun h z hz => by simpa using h z hz⟩
/-- the number of nodes with a label -/
def labC (n : Nat) (x : List Int) (v : Int) : Nat := ((List.range n).filter fun i => x.getD i 0 == v).length
theorem withL_len {n : Nat} {x : List Int} (h : x.length = n) (v : Int) : (withL x v).length = labC n x v := by unfold withL nodesB labC; rw [List.length_map, h]
theorem labC_le (n : Nat) (x : List Int) (v : Int) : labC n x v ≤ n := by unfold labC; have := List.length_filter_le (fun i => x.getD i 0 == v) (List.range n); rwa [List.length_range] at this
theorem labC_lt {n : Nat} {x z : List Int} {v u : Int} (h : ∀ i, i < n → z.getD i 0 = v → x.getD i 0 = u) {i : Nat} (hi : i < n) (h1 : x.getD i 0 = u) (h2 : z.getD i 0 ≠ v) : labC n z v < labC n x u := by
  unfold labC
  refine filter_length_lt (fun j hj hz => ?_) ⟨i, List.mem_range.2 hi, by simpa using h1, by simpa using h2⟩
  have := h j (List.mem_range.1 hj) (by simpa using hz)
  simpa using this
theorem labC_le2 {n : Nat} {x z : List Int} {v u : Int} (h : ∀ i, i < n → z.getD i 0 = v → x.getD i 0 = u) : labC n z v ≤ labC n x u := by
  unfold labC
  rw [← List.countP_eq_length_filter, ← List.countP_eq_length_filter]
  refine List.countP_mono_left fun j hj hz => ?_
  have := h j (List.mem_range.1 hj) (by simpa using hz)
  simpa using this
/-- one labelling's nodes with a label lie strictly within another's -/
theorem within_lab {n : Nat} {x z : List Int} {v u : Int} (hz : z.length = n) (hx : x.length = n) : withinB (withL z v) (withL x u) = true ↔ (∀ i, i < n → z.getD i 0 = v → x.getD i 0 = u) ∧ ∃ i, i < n ∧ x.getD i 0 = u ∧ z.getD i 0 ≠ v := by
  rw [within_iff, withL_len hz, withL_len hx]
  have hin : (∀ y ∈ withL z v, y ∈ withL x u) ↔ ∀ i, i < n → z.getD i 0 = v → x.getD i 0 = u := by
    constructor
    · intro h i hi hv
      obtain ⟨j, _, hj, h2⟩ := mem_withL.1 (h i (mem_withL.2 ⟨i, by omega, rfl, hv⟩))
      have : i = j := by omega
      subst this; exact h2
    · intro h y hy
      obtain ⟨i, hi, rfl, h2⟩ := mem_withL.1 hy
      exact mem_withL.2 ⟨i, by omega, rfl, h i (by omega) h2⟩
  rw [hin]
  constructor
  · rintro ⟨h1, h2⟩
    refine ⟨h2, Classical.byContradiction fun hn => ?_⟩
    have : labC n x u ≤ labC n z v := labC_le2 fun i hi hu => Classical.byContradiction fun hv => hn ⟨i, hi, hu, hv⟩
    omega
  · rintro ⟨h2, i, hi, h3, h4⟩
    exact ⟨labC_lt h2 hi h3 h4, h2⟩
theorem pref_iff {n : Nat} {x z : List Int} (hz : z.length = n) (hx : x.length = n) : prefP z x = true ↔ (∀ i, i < n → x.getD i 0 = 1 → z.getD i 0 = 1) ∧ ∃ i, i < n ∧ z.getD i 0 = 1 ∧ x.getD i 0 ≠ 1 := by
  unfold prefP; rw [places_one, places_one]; exact within_lab hx hz
theorem semi_iff {n : Nat} {x z : List Int} (hz : z.length = n) (hx : x.length = n) : semiP z x = true ↔ (∀ i, i < n → z.getD i 0 = 3 → x.getD i 0 = 3) ∧ ∃ i, i < n ∧ x.getD i 0 = 3 ∧ z.getD i 0 ≠ 3 := by
  unfold semiP; rw [places_one, places_one]; exact within_lab hz hx
theorem stab_iff {n : Nat} {x z : List Int} (hx : x.length = n) : stabP z x = false ↔ ∀ i, i < n → x.getD i 0 ≠ 3 := by
  unfold stabP
  rw [places_one, decide_eq_false_iff_not]
  constructor
  · intro h i hi e
    exact h (List.length_pos_of_mem (mem_withL.2 ⟨i, by omega, rfl, e⟩))
  · intro h hp
    obtain ⟨y, hy⟩ := List.exists_mem_of_length_pos hp
    obtain ⟨i, hi, _, e⟩ := mem_withL.1 hy
    exact h i (by omega) e

section
variable {n : Nat} {l : List (Int × Int)}
/-- what a complete labelling says of a node, with attackers as numbers -/
theorem com_nat (hv : InR n l) {y : List Int} (hc : comB n l y = true) {i : Nat} (hi : i < n) :
    (y.getD i 0 = 1 ∧ ∀ a, att l a i → y.getD a 0 = 2) ∨ (y.getD i 0 = 2 ∧ ∃ a, a < n ∧ att l a i ∧ y.getD a 0 = 1) ∨ (y.getD i 0 = 3 ∧ (∃ a, a < n ∧ att l a i ∧ y.getD a 0 = 3) ∧ ∀ a, att l a i → y.getD a 0 = 2 ∨ y.getD a 0 = 3) := by
  rcases com_att hv hc hi with ⟨e, h⟩ | ⟨e, k, hk, h⟩ | ⟨e, ⟨k, hk, h⟩, h'⟩
  · exact .inl ⟨e, fun a ha => by have := h a (mem_attackersL.2 ha); simpa using this⟩
  · obtain ⟨j, rfl, hj, haj⟩ := mem_att hv hk
    exact .inr (.inl ⟨e, j, hj, haj, by simpa using h⟩)
  · obtain ⟨j, rfl, hj, haj⟩ := mem_att hv hk
    exact .inr (.inr ⟨e, ⟨j, hj, haj, by simpa using h⟩, fun a ha => by have := h' a (mem_attackersL.2 ha); simpa using this⟩)
theorem com_in (hv : InR n l) {y : List Int} (hc : comB n l y = true) {i a : Nat} (hi : i < n) (h : y.getD i 0 = 1) (ha : att l a i) : y.getD a 0 = 2 := by
  rcases com_nat hv hc hi with ⟨_, h'⟩ | ⟨e, _⟩ | ⟨e, _⟩
  · exact h' a ha
  · omega
  · omega
theorem com_out (hv : InR n l) {y : List Int} (hc : comB n l y = true) {i : Nat} (hi : i < n) : y.getD i 0 = 2 ↔ ∃ a, a < n ∧ att l a i ∧ y.getD a 0 = 1 := by
  rcases com_nat hv hc hi with ⟨e, h'⟩ | ⟨e, h'⟩ | ⟨e, _, h'⟩
  · exact ⟨fun h => by omega, fun ⟨a, _, ha, h⟩ => by have := h' a ha; omega⟩
  · exact ⟨fun _ => h', fun _ => e⟩
  · exact ⟨fun h => by omega, fun ⟨a, _, ha, h⟩ => by have := h' a ha; omega⟩
theorem com_rng (hv : InR n l) {y : List Int} (hc : comB n l y = true) {i : Nat} (hi : i < n) : y.getD i 0 = 1 ∨ y.getD i 0 = 2 ∨ y.getD i 0 = 3 := by
  rcases com_nat hv hc hi with ⟨e, _⟩ | ⟨e, _⟩ | ⟨e, _⟩
  · exact .inl e
  · exact .inr (.inl e)
  · exact .inr (.inr e)
theorem comB_len {y : List Int} (hc : comB n l y = true) : y.length = n := comp_len (mem_comp.2 hc)
/-- more nodes In, fewer undecided -/
theorem semi_of_pref (hv : InR n l) {x z : List Int} (hx : comB n l x = true) (hz : comB n l z = true) (h : prefP z x = true) : semiP z x = true := by
  obtain ⟨h1, i, hi, h2, h3⟩ := (pref_iff (comB_len hz) (comB_len hx)).1 h
  refine (semi_iff (comB_len hz) (comB_len hx)).2 ⟨fun j hj hj3 => ?_, i, hi, ?_, by omega⟩
  · rcases com_rng hv hx hj with e | e | e
    · have := h1 j hj e; omega
    · obtain ⟨a, ha, hat, h4⟩ := (com_out hv hx hj).1 e
      have := (com_out hv hz hj).2 ⟨a, ha, hat, h1 a ha h4⟩
      omega
    · exact e
  · rcases com_rng hv hx hi with e | e | e
    · omega
    · obtain ⟨a, ha, hat, h4⟩ := (com_out hv hx hi).1 e
      have := com_in hv hz hi h2 hat
      have := h1 a ha h4
      omega
    · exact e
theorem stab_semi {x : List Int} (h : x ∈ keptL stabP (compL n l)) : x ∈ keptL semiP (compL n l) := by
  obtain ⟨h1, h2⟩ := mem_kept.1 h
  have hc := comp_len h1
  have h3 := (stab_iff hc).1 (h2 x h1)
  refine mem_kept.2 ⟨h1, fun z hz => ?_⟩
  cases hs : semiP z x
  · rfl
  · obtain ⟨_, i, hi, e, _⟩ := (semi_iff (comp_len hz) hc).1 hs
    exact absurd e (h3 i hi)
theorem semi_pref (hv : InR n l) {x : List Int} (h : x ∈ keptL semiP (compL n l)) : x ∈ keptL prefP (compL n l) := by
  obtain ⟨h1, h2⟩ := mem_kept.1 h
  refine mem_kept.2 ⟨h1, fun z hz => ?_⟩
  cases hs : prefP z x
  · rfl
  · have := semi_of_pref hv (mem_comp.1 h1) (mem_comp.1 hz) hs
    rw [h2 z hz] at this
    cases this
/-- above each there is one that is kept -/
theorem kept_above {p : List Int → List Int → Bool} {L : List (List Int)} (f : List Int → Nat) (R : List Int → List Int → Prop) (hr : ∀ x, R x x) (ht : ∀ {a b c}, R a b → R b c → R a c) (hp : ∀ z ∈ L, ∀ x ∈ L, p z x = true → f z < f x ∧ R x z) :
    ∀ (k : Nat) (x : List Int), x ∈ L → f x ≤ k → ∃ y ∈ keptL p L, R x y
  | k, x, hx, hk => by
    rcases Classical.em (∀ z ∈ L, p z x = false) with h | h
    · exact ⟨x, mem_kept.2 ⟨hx, h⟩, hr x⟩
    · obtain ⟨z, hz, hpz⟩ : ∃ z, z ∈ L ∧ p z x = true := Classical.byContradiction fun hn => h fun z hz => by
        cases hq : p z x
        · rfl
        · exact absurd ⟨z, hz, hq⟩ hn
      obtain ⟨h1, h2⟩ := hp z hz x hx hpz
      match k, hk with
      | 0, hk => omega
      | k + 1, hk =>
        obtain ⟨y, hy, hR⟩ := kept_above f R hr ht hp k z hz (by omega)
        exact ⟨y, hy, ht h2 hR⟩
theorem semi_above {x : List Int} (hx : x ∈ compL n l) : ∃ y ∈ keptL semiP (compL n l), ∀ i, i < n → y.getD i 0 = 3 → x.getD i 0 = 3 :=
  kept_above (fun x => labC n x 3) (fun x y => ∀ i, i < n → y.getD i 0 = 3 → x.getD i 0 = 3) (fun x i hi h => h) (fun h k i hi e => h i hi (k i hi e)) (fun z hz x hx h => by
    obtain ⟨h1, i, hi, h2, h3⟩ := (semi_iff (comp_len hz) (comp_len hx)).1 h
    exact ⟨labC_lt h1 hi h2 h3, h1⟩) _ x hx (Nat.le_refl _)
theorem pref_above {x : List Int} (hx : x ∈ compL n l) : ∃ y ∈ keptL prefP (compL n l), ∀ i, i < n → x.getD i 0 = 1 → y.getD i 0 = 1 :=
  kept_above (fun x => n - labC n x 1) (fun x y => ∀ i, i < n → x.getD i 0 = 1 → y.getD i 0 = 1) (fun x i hi h => h) (fun h k i hi e => k i hi (h i hi e)) (fun z hz x hx h => by
    obtain ⟨h1, i, hi, h2, h3⟩ := (pref_iff (comp_len hz) (comp_len hx)).1 h
    have := labC_lt h1 hi h2 h3
    have := labC_le n z 1
    exact ⟨by omega, h1⟩) _ x hx (Nat.le_refl _)
theorem semi_some (hv : InR n l) : 0 < (keptL semiP (compL n l)).length := by
  obtain ⟨x, hx⟩ := List.exists_mem_of_length_pos (comp_some hv)
  obtain ⟨y, hy, _⟩ := semi_above hx
  exact List.length_pos_of_mem hy
theorem stab_is_semi (h : (keptL stabP (compL n l)).length ≠ 0) : keptL stabP (compL n l) = keptL semiP (compL n l) := by
  obtain ⟨y, hy⟩ := List.exists_mem_of_length_pos (Nat.pos_of_ne_zero h)
  obtain ⟨hy1, hy2⟩ := mem_kept.1 hy
  have hy3 := (stab_iff (comp_len hy1)).1 (hy2 y hy1)
  unfold keptL
  refine List.filter_congr fun x hx => ?_
  have e1 : x ∈ keptL stabP (compL n l) → x ∈ keptL semiP (compL n l) := stab_semi
  have e2 : x ∈ keptL semiP (compL n l) → x ∈ keptL stabP (compL n l) := fun hs => by
    obtain ⟨h1, h2⟩ := mem_kept.1 hs
    refine mem_kept.2 ⟨h1, fun z hz => (stab_iff (comp_len h1)).2 fun i hi e => ?_⟩
    have := h2 y hy1
    have h4 : semiP y x = true := (semi_iff (comp_len hy1) (comp_len h1)).2 ⟨fun j hj e => absurd e (hy3 j hj), i, hi, e, hy3 i hi⟩
    rw [this] at h4; cases h4
  unfold keptL at e1 e2
  simp only [List.mem_filter] at e1 e2
  cases hb : !((compL n l).any fun z => stabP z x) <;> cases hb2 : !((compL n l).any fun z => semiP z x)
  · rfl
  · rw [(e2 ⟨hx, hb2⟩).2] at hb; cases hb
  · rw [(e1 ⟨hx, hb⟩).2] at hb2; cases hb2
  · rfl
end
end Go.Proofs.YtncimnfhfomddaaDoor

/- Plain laws of layer 15: graphs without an odd cycle. -/
namespace Go.Proofs.YtncimnfhfomddaaDoor
open Go.ChangeShapes Go.WideShapes Go.ChangeAt Go.RowKit

/-- every attack joins an even and an odd node -/
def evenG (l : List (Int × Int)) : Prop := ∀ q ∈ l, (q.1 + q.2) % 2 = 1
theorem even_att {l : List (Int × Int)} (h : evenG l) {a i : Nat} (ha : att l a i) : (a + i) % 2 = 1 := by
  have := h _ ha
  simp only at this
  omega
section
variable {n : Nat} {l : List (Int × Int)}
theorem even_same (hv : InR n l) (he : evenG l) {x y : List Int} (hx : comB n l x = true) (hy : comB n l y = true) (h : ∀ i, i < n → i % 2 = 0 → x.getD i 0 = y.getD i 0) : x = y := by
  have hall : ∀ i, i < n → x.getD i 0 = y.getD i 0 := fun i hi => by
    rcases Nat.mod_two_eq_zero_or_one i with h0 | h1
    · exact h i hi h0
    · have hatt : ∀ a, a < n → att l a i → x.getD a 0 = y.getD a 0 := fun a ha hat => h a ha (by have := even_att he hat; omega)
      rcases com_nat hv hx hi with ⟨e, h'⟩ | ⟨e, a, ha, hat, h'⟩ | ⟨e, ⟨a, ha, hat, h'⟩, h2⟩
      · rcases com_nat hv hy hi with ⟨e2, _⟩ | ⟨e2, a, ha, hat, h3⟩ | ⟨e2, ⟨a, ha, hat, h3⟩, _⟩
        · omega
        · have := h' a hat; have := hatt a ha hat; omega
        · have := h' a hat; have := hatt a ha hat; omega
      · have := hatt a ha hat
        rw [e, (com_out hv hy hi).2 ⟨a, ha, hat, by omega⟩]
      · have h4 := hatt a ha hat
        rcases com_nat hv hy hi with ⟨e2, h3⟩ | ⟨e2, b, hb, hbt, h3⟩ | ⟨e2, _⟩
        · have := h3 a hat; omega
        · have := h2 b hbt; have := hatt b hb hbt; omega
        · omega
  rw [list_of_getD (comB_len hx), list_of_getD (comB_len hy)]
  exact lst_congr hall
theorem one_each {α : Type} [DecidableEq α] : ∀ {L : List α}, L.Nodup → (∀ x ∈ L, ∀ y ∈ L, x = y) → L.length ≤ 1
  | [], _, _ => by simp
  | [_], _, _ => by simp
  | a :: b :: L, hn, h => by
    have e := h a (by simp) b (by simp)
    subst e
    simp at hn
theorem comp_nodup (n : Nat) (l : List (Int × Int)) : (compL n l).Nodup := (comp_sorted n l).imp fun h => lexL_ne h
def evenD (y : List Int) (i : Nat) : Nat := (y.getD i 0 - 1).toNat
def evenF (y : List Int) : Nat := evenD y 0 + 3 * evenD y 2 + 9 * evenD y 4 + 27 * evenD y 6
theorem evenD_le {y : List Int} (hy : comB n l y = true) (i : Nat) : evenD y i ≤ 2 := by
  unfold evenD
  rcases Nat.lt_or_ge i n with h | h
  · have := labB_at (comB_iff.1 hy).1 h; omega
  · have := comB_len hy
    rw [List.getD_eq_getElem?_getD, List.getElem?_eq_none (by omega)]; decide
theorem evenD_eq {x y : List Int} (hx : comB n l x = true) (hy : comB n l y = true) {i : Nat} (hi : i < n) (h : evenD x i = evenD y i) : x.getD i 0 = y.getD i 0 := by
  unfold evenD at h
  have := labB_at (comB_iff.1 hx).1 hi
  have := labB_at (comB_iff.1 hy).1 hi
  omega
theorem four_dig {a b c d a' b' c' d' : Nat} (e : a + 3 * b + 9 * c + 27 * d = a' + 3 * b' + 9 * c' + 27 * d') (h1 : a ≤ 2) (h2 : b ≤ 2) (h3 : c ≤ 2) (_h4 : d ≤ 2) (k1 : a' ≤ 2) (k2 : b' ≤ 2) (k3 : c' ≤ 2) (_k4 : d' ≤ 2) : a = a' ∧ b = b' ∧ c = c' ∧ d = d' := by
  have h1 : a = a' := by omega
  have h2 : b = b' := by omega
  have h3 : c = c' := by omega
  exact ⟨h1, h2, h3, by omega⟩
theorem even_few (hv : InR n l) (he : evenG l) (hn : n ≤ 8) : (compL n l).length ≤ 200 := by
  have key : (compL n l).length ≤ 81 * 1 := by
    refine len_by evenF 1 81 (compL n l) (fun y hy => ?_) fun v => ?_
    · have h := evenD_le (mem_comp.1 hy)
      have h0 := h 0; have h2 := h 2; have h4 := h 4; have h6 := h 6
      unfold evenF
      omega
    · refine one_each ((comp_nodup n l).filter _) fun x hx y hy => ?_
      obtain ⟨hx1, hx2⟩ := List.mem_filter.1 hx
      obtain ⟨hy1, hy2⟩ := List.mem_filter.1 hy
      have hx1 := mem_comp.1 hx1; have hy1 := mem_comp.1 hy1
      have hx2 : evenF x = v := by simpa using hx2
      have hy2 : evenF y = v := by simpa using hy2
      have e : evenF x = evenF y := by rw [hx2, hy2]
      unfold evenF at e
      have h := evenD_le hx1; have k := evenD_le hy1
      obtain ⟨e0, e2, e4, e6⟩ := four_dig e (h 0) (h 2) (h 4) (h 6) (k 0) (k 2) (k 4) (k 6)
      refine even_same hv he hx1 hy1 fun i hi h0 => evenD_eq hx1 hy1 hi ?_
      have : i = 0 ∨ i = 2 ∨ i = 4 ∨ i = 6 := by omega
      rcases this with h | h | h | h <;> subst h
      · exact e0
      · exact e2
      · exact e4
      · exact e6
  omega
/-- the undecided even nodes In, the undecided odd ones Out -/
def evenY (n : Nat) (x : List Int) : List Int := lst n fun i => if x.getD i 0 = 3 then (if i % 2 = 0 then 1 else 2) else x.getD i 0
theorem evenY_at {x : List Int} {i : Nat} (h : i < n) : (evenY n x).getD i 0 = if x.getD i 0 = 3 then (if i % 2 = 0 then 1 else 2) else x.getD i 0 := lst_getD h
theorem evenY_com (hv : InR n l) (he : evenG l) {x : List Int} (hx : comB n l x = true) : comB n l (evenY n x) = true := by
  have hl : labB n (evenY n x) = true := by
    refine labB_iff.2 ⟨lst_length .., fun v hv' => ?_⟩
    obtain ⟨i, hi, rfl⟩ := List.mem_map.1 hv'
    have hi := List.mem_range.1 hi
    have := labB_at (comB_iff.1 hx).1 hi
    split
    · split <;> omega
    · exact this
  refine comB_iff.2 ⟨hl, fun i hi => (legB_iff hv (labB_at hl hi)).2 ?_⟩
  have hy : ∀ a, att l a i → a < n := fun a ha => (att_lt hv ha).1
  rcases com_nat hv hx hi with ⟨e, h'⟩ | ⟨e, a, ha, hat, h'⟩ | ⟨e, ⟨a, ha, hat, h'⟩, h2⟩
  · refine .inl ⟨by rw [evenY_at hi, if_neg (by omega), e], fun a ha => ?_⟩
    have := h' a ha
    rw [evenY_at (hy a ha), if_neg (by omega), this]
  · exact .inr (.inl ⟨by rw [evenY_at hi, if_neg (by omega), e], a, hat, by rw [evenY_at ha, if_neg (by omega), h']⟩)
  · rcases Nat.mod_two_eq_zero_or_one i with h0 | h1
    · refine .inl ⟨by rw [evenY_at hi, if_pos e, if_pos h0], fun b hb => ?_⟩
      have hp := even_att he hb
      rw [evenY_at (hy b hb)]
      rcases h2 b hb with h3 | h3
      · rw [if_neg (by omega), h3]
      · rw [if_pos h3, if_neg (by omega)]
    · have hp := even_att he hat
      exact .inr (.inl ⟨by rw [evenY_at hi, if_pos e, if_neg (by omega)], a, hat, by rw [evenY_at ha, if_pos h', if_pos (by omega)]⟩)
theorem even_kept (hv : InR n l) (he : evenG l) : keptL prefP (compL n l) = keptL stabP (compL n l) := by
  have key : ∀ x ∈ compL n l, (x ∈ keptL prefP (compL n l) ↔ x ∈ keptL stabP (compL n l)) := fun x hx => by
    constructor
    · intro h
      obtain ⟨_, h2⟩ := mem_kept.1 h
      refine mem_kept.2 ⟨hx, fun z _ => (stab_iff (comp_len hx)).2 fun i hi e => ?_⟩
      have hc := mem_comp.1 hx
      have hy := evenY_com hv he hc
      obtain ⟨j, hj, hj3, hj0⟩ : ∃ j, j < n ∧ x.getD j 0 = 3 ∧ j % 2 = 0 := by
        rcases Nat.mod_two_eq_zero_or_one i with h0 | h1
        · exact ⟨i, hi, e, h0⟩
        · rcases com_nat hv hc hi with ⟨e2, _⟩ | ⟨e2, _⟩ | ⟨_, ⟨a, ha, hat, h'⟩, _⟩
          · omega
          · omega
          · exact ⟨a, ha, h', by have := even_att he hat; omega⟩
      have := h2 _ (mem_comp.2 hy)
      have hp : prefP (evenY n x) x = true := (pref_iff (comB_len hy) (comB_len hc)).2 ⟨fun k hk e1 => by rw [evenY_at hk, if_neg (by omega), e1], j, hj, by rw [evenY_at hj, if_pos hj3, if_pos hj0], by omega⟩
      rw [hp] at this; cases this
    · exact fun h => semi_pref hv (stab_semi h)
  unfold keptL at key ⊢
  refine List.filter_congr fun x hx => ?_
  have := key x hx
  simp only [List.mem_filter, hx, true_and] at this
  cases hb : !((compL n l).any fun z => prefP z x) <;> cases hb2 : !((compL n l).any fun z => stabP z x)
  · rfl
  · have := this.2 hb2; rw [hb] at this; cases this
  · have := this.1 hb; rw [hb2] at this; cases this
  · rfl
theorem pref_some (hv : InR n l) : 0 < (keptL prefP (compL n l)).length := by
  obtain ⟨x, hx⟩ := List.exists_mem_of_length_pos (comp_some hv)
  obtain ⟨y, hy, _⟩ := pref_above hx
  exact List.length_pos_of_mem hy
end
end Go.Proofs.YtncimnfhfomddaaDoor

/- Plain laws of layer 15: few labellings; admissible sets lie within preferred ones. -/
namespace Go.Proofs.YtncimnfhfomddaaDoor
open Go.ChangeShapes Go.WideShapes Go.ChangeAt Go.RowKit

def bitI (y : List Int) (i : Nat) : Nat := if y.getD i 0 = 1 then 1 else 0
theorem bitI_le (y : List Int) (i : Nat) : bitI y i ≤ 1 := by unfold bitI; split <;> omega
theorem bitI_eq {x y : List Int} {i : Nat} (h : bitI x i = bitI y i) : x.getD i 0 = 1 ↔ y.getD i 0 = 1 := by
  unfold bitI at h
  split at h <;> split at h <;> simp_all
def inF (y : List Int) : Nat := bitI y 0 + 2 * bitI y 1 + 4 * bitI y 2 + 8 * bitI y 3 + 16 * bitI y 4 + 32 * bitI y 5
section
variable {n : Nat} {l : List (Int × Int)}
theorem com_same (hv : InR n l) {x y : List Int} (hx : comB n l x = true) (hy : comB n l y = true) (h : ∀ i, i < n → (x.getD i 0 = 1 ↔ y.getD i 0 = 1)) : x = y := by
  rw [← from_with hv hx, ← from_with hv hy]
  have : withL x 1 = withL y 1 := by
    unfold withL
    rw [comB_len hx, comB_len hy]
    refine nodesB_congr fun i hi => ?_
    have := h i hi
    cases hb : (x.getD i 0 == 1) <;> cases hb2 : (y.getD i 0 == 1)
    · rfl
    · rw [beq_iff_eq] at hb2; rw [beq_eq_false_iff_ne] at hb; exact absurd (this.2 hb2) hb
    · rw [beq_iff_eq] at hb; rw [beq_eq_false_iff_ne] at hb2; exact absurd (this.1 hb) hb2
    · rfl
  rw [this]
theorem comp_few (hv : InR n l) (hn : n ≤ 6) : (compL n l).length ≤ 200 := by
  have key : (compL n l).length ≤ 64 * 1 := by
   refine len_by inF 1 64 (compL n l) (fun y hy => ?_) fun v => ?_
   · have := bitI_le y 0; have := bitI_le y 1; have := bitI_le y 2; have := bitI_le y 3; have := bitI_le y 4; have := bitI_le y 5
     unfold inF
     omega
   · refine one_each ((comp_nodup n l).filter _) fun x hx y hy => ?_
     obtain ⟨hx1, hx2⟩ := List.mem_filter.1 hx
     obtain ⟨hy1, hy2⟩ := List.mem_filter.1 hy
     have hx2 : inF x = v := by simpa using hx2
     have hy2 : inF y = v := by simpa using hy2
     have e : inF x = inF y := by rw [hx2, hy2]
     refine com_same hv (mem_comp.1 hx1) (mem_comp.1 hy1) fun i hi => bitI_eq ?_
     have a0 := bitI_le x 0; have a1 := bitI_le x 1; have a2 := bitI_le x 2; have a3 := bitI_le x 3; have a4 := bitI_le x 4; have a5 := bitI_le x 5
     have b0 := bitI_le y 0; have b1 := bitI_le y 1; have b2 := bitI_le y 2; have b3 := bitI_le y 3; have b4 := bitI_le y 4; have b5 := bitI_le y 5
     unfold inF at e
     have : i = 0 ∨ i = 1 ∨ i = 2 ∨ i = 3 ∨ i = 4 ∨ i = 5 := by omega
     rcases this with h | h | h | h | h | h <;> subst h <;> omega
  omega
theorem with_set {y : List Int} (hc : comB n l y = true) : setB n (withL y 1) = true := by
  have := setB_nodes n fun i => y.getD i 0 == 1
  unfold withL
  rw [comB_len hc]; exact this
/-- the nodes In of a complete labelling are a complete set -/
theorem in_compl (hv : InR n l) {y : List Int} (hc : comB n l y = true) : complB n l (maskN (withL y 1)) = true := by
  rw [compl_from hv (with_set hc), from_with hv hc]; exact hc
theorem in_sound (hv : InR n l) {y : List Int} (hc : comB n l y = true) : soundL n l (withL y 1) = true := by
  unfold soundL
  rw [with_set hc, (complB_iff.1 (in_compl hv hc)).1]; rfl
theorem has_set (hn : n ≤ 40) {x : List Int} (h : setB n x = true) {i : Nat} : has (maskN x) i ↔ (i : Int) ∈ x := by
  conv => rhs; rw [← set_nodes h]
  rw [mem_nodesB]
  have hlt : ∀ j, has (maskN x) j → j < n := fun j hj => by
    have := (setB_mask hn h).2
    exact Classical.byContradiction fun hn => by
      have h2 : maskN x < 2 ^ j := Nat.lt_of_lt_of_le this (Nat.pow_le_pow_right (by omega) (by omega))
      have := Nat.testBit_lt_two_pow h2
      unfold has at hj
      rw [this] at hj; cases hj
  constructor
  · exact fun hh => ⟨i, hlt i hh, hh, rfl⟩
  · rintro ⟨j, _, h2, h3⟩
    have : i = j := by omega
    subst this; exact h2
/-- an admissible set lies within a preferred labelling's nodes -/
theorem adm_above (hv : InR n l) {x : List Int} (h : soundL n l x = true) : ∃ y ∈ keptL prefP (compL n l), insideB x (withL y 1) = true := by
  unfold soundL at h
  rw [Bool.and_eq_true] at h
  obtain ⟨hs, hd⟩ := h
  have hm := (setB_mask hv.1 hs).2
  obtain ⟨hc, hsub⟩ := grow_compl hv hm hd
  have hgm : growN n l (maskN x) < 2 ^ n := (grow_all hv hm hd _).2.2
  have hgs : setB n (nodesB n (growN n l (maskN x)).testBit) = true := setB_nodes n _
  have hgn : maskN (nodesB n (growN n l (maskN x)).testBit) = growN n l (maskN x) := mask_nodes hgm
  have hz : comB n l (fromL n l (nodesB n (growN n l (maskN x)).testBit)) = true := by rw [← compl_from hv hgs, hgn]; exact hc
  obtain ⟨y, hy, hab⟩ := pref_above (mem_comp.2 hz)
  refine ⟨y, hy, insideB_iff.2 fun v hv' => ?_⟩
  obtain ⟨i, hi, rfl⟩ : ∃ i : Nat, i < n ∧ v = i := by
    have := hv'
    rw [← set_nodes hs] at this
    obtain ⟨i, hi, _, e⟩ := mem_nodesB.1 this
    exact ⟨i, hi, e⟩
  have h1 := hsub i ((has_set hv.1 hs).2 hv')
  refine mem_withL.2 ⟨i, by rw [comp_len (mem_kept.1 hy).1]; exact hi, rfl, hab i hi ?_⟩
  rw [fromL_at hi]
  exact (from1 hgs).2 (by rw [hgn]; exact h1)
/-- which nodes lie in an admissible set of a list -/
def accB (n : Nat) (l : List (Int × Int)) (S : List (List Int)) (i : Nat) : Bool := S.any fun x => soundL n l x && inB x i
theorem acc_all (hv : InR n l) {i : Nat} (hi : i < n) : accB n l (setsL n) i = (keptL prefP (compL n l)).any fun y => atB y i := by
  have hat : ∀ y, y ∈ compL n l → (atB y i = true ↔ y.getD i 0 = 1) := fun y hy => by
    have := comp_len hy
    unfold atB
    rw [Bool.and_eq_true, Bool.and_eq_true, decide_eq_true_iff, decide_eq_true_iff, beq_iff_eq, Int.toNat_natCast]
    exact ⟨fun h => h.2, fun h => ⟨⟨by omega, by omega⟩, h⟩⟩
  rw [Bool.eq_iff_iff]
  unfold accB
  rw [List.any_eq_true, List.any_eq_true]
  constructor
  · rintro ⟨x, _, h⟩
    rw [Bool.and_eq_true, inB_iff] at h
    obtain ⟨y, hy, hin⟩ := adm_above hv h.1
    refine ⟨y, hy, (hat y (mem_kept.1 hy).1).2 ?_⟩
    obtain ⟨j, _, e, h2⟩ := mem_withL.1 (insideB_iff.1 hin i h.2)
    have : i = j := by omega
    subst this; exact h2
  · rintro ⟨y, hy, h⟩
    have hc := mem_comp.1 (mem_kept.1 hy).1
    refine ⟨withL y 1, mem_sets (with_set hc) hv.1, ?_⟩
    rw [Bool.and_eq_true, inB_iff]
    exact ⟨in_sound hv hc, mem_withL.2 ⟨i, by rw [comB_len hc]; exact hi, rfl, (hat y (mem_kept.1 hy).1).1 h⟩⟩
theorem acc_miss {S : List (List Int)} {k : Nat} (hk : k < S.length) (h : soundL n l S[k] = false) : accB n l (S.take (k + 1)) = accB n l (S.take k) := by
  funext i
  unfold accB
  rw [any_stepX _ _ hk, h]; simp
theorem acc_hit {S : List (List Int)} {k : Nat} (hk : k < S.length) (h : soundL n l S[k] = true) (i : Nat) : accB n l (S.take (k + 1)) i = (accB n l (S.take k) i || inB S[k] i) := by
  unfold accB
  rw [any_stepX _ _ hk, h]; simp
end

section
variable {n : Nat} {l : List (Int × Int)}
/-- the nodes In of a complete labelling, as a mask -/
theorem in_fix (hv : InR n l) {y : List Int} (hy : comB n l y = true) : stepN n l (maskN (withL y 1)) = maskN (withL y 1) := (complB_iff.1 (in_compl hv hy)).2
theorem has_in (_hv : InR n l) {y : List Int} (hy : comB n l y = true) {i : Nat} : has (maskN (withL y 1)) i ↔ i < n ∧ y.getD i 0 = 1 := by
  unfold withL
  rw [mask_nodesB, comB_len hy, beq_iff_eq]
end
end Go.Proofs.YtncimnfhfomddaaDoor
