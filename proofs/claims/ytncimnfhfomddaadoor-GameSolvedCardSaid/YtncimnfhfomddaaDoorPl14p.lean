/- Layer 14 in plain words: the labellings and naive sets of a graph of two parts; of pairs of nodes; how many naive sets there are. No program in sight. -/
import Derived.Test.YtncimnfhfomddaaDoorPl14n
import Derived.Test.YtncimnfhfomddaaDoorLov
namespace Go.Proofs.YtncimnfhfomddaaDoor
open Go.ChangeShapes Go.WideShapes Go.ChangeAt Go.RowKit

def shP (n : Nat) (p : Int × Int) : Int × Int := ((n : Int) + p.1, (n : Int) + p.2)
def twoL (n : Nat) (l m : List (Int × Int)) : List (Int × Int) := l ++ m.map (shP n)
section
variable {n m : Nat} {l k : List (Int × Int)}
theorem two_att (_hv : InR n l) (hw : InR m k) {a b : Nat} : att (twoL n l k) a b ↔ att l a b ∨ ∃ x y : Nat, a = n + x ∧ b = n + y ∧ att k x y := by
  unfold att twoL
  rw [List.mem_append, List.mem_map]
  constructor
  · rintro (h | ⟨⟨x, y⟩, hp, e⟩)
    · exact .inl h
    · right
      have hr := hw.2.2 _ hp
      simp only at hr
      obtain ⟨x, rfl⟩ := Int.eq_ofNat_of_zero_le hr.1
      obtain ⟨y, rfl⟩ := Int.eq_ofNat_of_zero_le hr.2.2.1
      simp only [shP, Prod.mk.injEq] at e
      exact ⟨x, y, by omega, by omega, hp⟩
  · rintro (h | ⟨x, y, rfl, rfl, h⟩)
    · exact .inl h
    · exact .inr ⟨_, h, by simp [shP]⟩
theorem two_left (hv : InR n l) (hw : InR m k) {a b : Nat} (h : a < n ∨ b < n) : att (twoL n l k) a b ↔ att l a b := by
  rw [two_att hv hw]
  constructor
  · rintro (h1 | ⟨x, y, h1, h2, _⟩)
    · exact h1
    · omega
  · exact .inl
theorem two_right (hv : InR n l) (hw : InR m k) {a b : Nat} : att (twoL n l k) (n + a) (n + b) ↔ att k a b := by
  rw [two_att hv hw]
  constructor
  · rintro (h1 | ⟨x, y, h1, h2, h3⟩)
    · have := (att_lt hv h1).1; omega
    · have e1 : x = a := by omega
      have e2 : y = b := by omega
      subst e1; subst e2; exact h3
  · exact fun h => .inr ⟨a, b, rfl, rfl, h⟩
theorem two_vld (hv : Vld n l) (hw : Vld m k) (hnm : n + m ≤ 40) : Vld (n + m) (twoL n l k) := by
  refine ⟨⟨hnm, ?_, fun p hp => ?_⟩, ?_⟩
  · have h1 := len_of_vld hv; have h2 := len_of_vld hw
    unfold twoL
    rw [List.length_append, List.length_map]; omega
  · unfold twoL at hp
    rw [List.mem_append, List.mem_map] at hp
    rcases hp with hp | ⟨q, hq, rfl⟩
    · have := hv.1.2.2 p hp; omega
    · have := hw.1.2.2 q hq
      simp only [shP]; omega
  · unfold twoL
    refine List.pairwise_append.2 ⟨hv.2, ?_, fun a ha b hb => ?_⟩
    · rw [List.pairwise_map]
      exact hw.2.imp fun {a b} h => by unfold ltP at *; simp only [shP]; omega
    · rw [List.mem_map] at hb
      obtain ⟨q, hq, rfl⟩ := hb
      have := hv.1.2.2 a ha; have := hw.1.2.2 q hq
      unfold ltP; simp only [shP]; omega
theorem getD_l {a b : List Int} {i : Nat} (h : i < a.length) : (a ++ b).getD i 0 = a.getD i 0 := by simp [List.getD, List.getElem?_append_left h]
theorem getD_r {a b : List Int} (i : Nat) : (a ++ b).getD (a.length + i) 0 = b.getD i 0 := by simp [List.getD, List.getElem?_append_right]
theorem two_com (hv : InR n l) (hw : InR m k) (hnm : InR (n + m) (twoL n l k)) {a b : List Int} (ha : a.length = n) : comB (n + m) (twoL n l k) (a ++ b) = true ↔ comB n l a = true ∧ comB m k b = true := by
  rw [comB_iff, comB_iff, comB_iff, labB_iff, labB_iff, labB_iff]
  have hsplit : ∀ {p : Nat → Prop}, (∀ i, i < n + m → p i) ↔ (∀ i, i < n → p i) ∧ ∀ i, i < m → p (n + i) := fun {p} => by
    constructor
    · intro h; exact ⟨fun i hi => h i (by omega), fun i hi => h (n + i) (by omega)⟩
    · rintro ⟨h1, h2⟩ i hi
      rcases Nat.lt_or_ge i n with h | h
      · exact h1 i h
      · have := h2 (i - n) (by omega)
        rwa [Nat.add_sub_cancel' h] at this
  have hL : ∀ i, i < n → (a ++ b).getD i 0 = a.getD i 0 := fun i hi => getD_l (by omega)
  have hR : ∀ i, (a ++ b).getD (n + i) 0 = b.getD i 0 := fun i => by rw [← ha]; exact getD_r i
  have hex : ∀ {p q : Nat → Prop} (i : Nat), i < n → ((∀ x, att (twoL n l k) x i → p x) ↔ ∀ x, att l x i → p x) ∧ ((∃ x, att (twoL n l k) x i ∧ q x) ↔ ∃ x, att l x i ∧ q x) := fun {p q} i hi =>
    ⟨by simp only [two_left hv hw (.inr hi)], by simp only [two_left hv hw (.inr hi)]⟩
  have hey : ∀ {p q : Nat → Prop} (i : Nat), ((∀ x, att (twoL n l k) x (n + i) → p x) ↔ ∀ x, att k x i → p (n + x)) ∧ ((∃ x, att (twoL n l k) x (n + i) ∧ q x) ↔ ∃ x, att k x i ∧ q (n + x)) := fun {p q} i => by
    have hx : ∀ x, att (twoL n l k) x (n + i) → ∃ y, x = n + y ∧ att k y i := fun x h => by
      rcases (two_att hv hw).1 h with h | ⟨y, z, h1, h2, h3⟩
      · have := (att_lt hv h).2; omega
      · have : z = i := by omega
        subst this; exact ⟨y, h1, h3⟩
    constructor
    · constructor
      · intro h x hxa; exact h _ ((two_right hv hw).2 hxa)
      · intro h x hxa
        obtain ⟨y, rfl, hy⟩ := hx x hxa
        exact h y hy
    · constructor
      · rintro ⟨x, hxa, hq⟩
        obtain ⟨y, rfl, hy⟩ := hx x hxa
        exact ⟨y, hy, hq⟩
      · rintro ⟨x, hxa, hq⟩; exact ⟨_, (two_right hv hw).2 hxa, hq⟩
  have hl1 : ∀ i, i < n → (1 ≤ a.getD i 0 ∧ a.getD i 0 ≤ 3) → (legB (twoL n l k) (a ++ b) i = true ↔ legB l a i = true) := fun i hi hr => by
    rw [legB_iff hnm (by rw [hL i hi]; exact hr), legB_iff hv hr, hL i hi, (hex (q := fun _ => True) i hi).1, (hex (p := fun _ => True) i hi).2, (hex (p := fun _ => True) i hi).2, (hex (q := fun _ => True) i hi).1]
    have e : ∀ x, att l x i → (a ++ b).getD x 0 = a.getD x 0 := fun x h => hL x (att_lt hv h).1
    constructor
    · rintro (⟨h1, h2⟩ | ⟨h1, x, h2, h3⟩ | ⟨h1, ⟨x, h2, h3⟩, h4⟩)
      · exact .inl ⟨h1, fun x hx => by rw [← e x hx]; exact h2 x hx⟩
      · exact .inr (.inl ⟨h1, x, h2, by rw [← e x h2]; exact h3⟩)
      · exact .inr (.inr ⟨h1, ⟨x, h2, by rw [← e x h2]; exact h3⟩, fun y hy => by rw [← e y hy]; exact h4 y hy⟩)
    · rintro (⟨h1, h2⟩ | ⟨h1, x, h2, h3⟩ | ⟨h1, ⟨x, h2, h3⟩, h4⟩)
      · exact .inl ⟨h1, fun x hx => by rw [e x hx]; exact h2 x hx⟩
      · exact .inr (.inl ⟨h1, x, h2, by rw [e x h2]; exact h3⟩)
      · exact .inr (.inr ⟨h1, ⟨x, h2, by rw [e x h2]; exact h3⟩, fun y hy => by rw [e y hy]; exact h4 y hy⟩)
  have hl2 : ∀ i, (1 ≤ b.getD i 0 ∧ b.getD i 0 ≤ 3) → (legB (twoL n l k) (a ++ b) (n + i) = true ↔ legB k b i = true) := fun i hr => by
    rw [legB_iff hnm (by rw [hR i]; exact hr), legB_iff hw hr, hR i, (hey (q := fun _ => True) i).1, (hey (p := fun _ => True) i).2, (hey (p := fun _ => True) i).2, (hey (q := fun _ => True) i).1]
    simp only [hR]
  have hlen : (a ++ b).length = n + m ↔ b.length = m := by rw [List.length_append]; omega
  have hmem : (∀ v ∈ a ++ b, 1 ≤ v ∧ v ≤ 3) ↔ (∀ v ∈ a, 1 ≤ v ∧ v ≤ 3) ∧ ∀ v ∈ b, 1 ≤ v ∧ v ≤ 3 := by
    constructor
    · intro h; exact ⟨fun v hv => h v (List.mem_append_left _ hv), fun v hv => h v (List.mem_append_right _ hv)⟩
    · rintro ⟨h1, h2⟩ v hv; exact (List.mem_append.1 hv).elim (h1 v) (h2 v)
  rw [hlen, hmem, hsplit]
  have hat : ∀ {z : List Int} {i : Nat}, (∀ v ∈ z, 1 ≤ v ∧ v ≤ 3) → i < z.length → 1 ≤ z.getD i 0 ∧ z.getD i 0 ≤ 3 := fun {z i} h hi => by
    rw [List.getD_eq_getElem?_getD, List.getElem?_eq_getElem hi, Option.getD_some]; exact h _ (List.getElem_mem hi)
  constructor
  · rintro ⟨⟨h1, h2, h3⟩, h4, h5⟩
    exact ⟨⟨⟨ha, h2⟩, fun i hi => (hl1 i hi (hat h2 (by omega))).1 (h4 i hi)⟩, ⟨⟨h1, h3⟩, fun i hi => (hl2 i (hat h3 (by omega))).1 (h5 i hi)⟩⟩
  · rintro ⟨⟨⟨_, h2⟩, h4⟩, ⟨h1, h3⟩, h5⟩
    exact ⟨⟨h1, h2, h3⟩, fun i hi => (hl1 i hi (hat h2 (by omega))).2 (h4 i hi), fun i hi => (hl2 i (hat h3 (by omega))).2 (h5 i hi)⟩
theorem lex_app {a a' b b' : List Int} (hl : a.length = a'.length) (h : lexL a a' ∧ a ≠ a') : lexL (a ++ b) (a' ++ b') := by
  obtain ⟨⟨i, h1, h2⟩, _⟩ := h
  have hi : i < a.length := by
    rcases Nat.lt_or_ge i a.length with h | h
    · exact h
    · exfalso
      rw [List.getD_eq_getElem?_getD, List.getD_eq_getElem?_getD, List.getElem?_eq_none h, List.getElem?_eq_none (by omega)] at h2
      simp at h2
  exact ⟨i, fun j hj => by rw [getD_l (by omega), getD_l (by omega)]; exact h1 j hj, by rw [getD_l hi, getD_l (by omega)]; exact h2⟩
theorem lex_app2 {a b b' : List Int} (h : lexL b b') : lexL (a ++ b) (a ++ b') := by
  obtain ⟨i, h1, h2⟩ := h
  refine ⟨a.length + i, fun j hj => ?_, by rw [getD_r, getD_r]; exact h2⟩
  rcases Nat.lt_or_ge j a.length with h | h
  · rw [getD_l h, getD_l h]
  · have e : j = a.length + (j - a.length) := by omega
    rw [e, getD_r, getD_r]; exact h1 _ (by omega)
theorem lexL_ne {a b : List Int} (h : lexL a b) : a ≠ b := fun e => by subst e; exact lexL_asymm h h
/-- pairs of two lists, in order -/
def pairsL {α : Type} (f : α → α → α) (a b : List α) : List α := a.flatMap fun x => b.map (f x)
theorem pairsL_length {α : Type} (f : α → α → α) (a b : List α) : (pairsL f a b).length = a.length * b.length := by
  unfold pairsL
  induction a with
  | nil => simp
  | cons x a ih => rw [List.flatMap_cons, List.length_append, ih, List.length_map, List.length_cons, Nat.add_mul, Nat.one_mul, Nat.add_comm]
theorem pairsL_at {α : Type} (f : α → α → α) : ∀ (a b : List α) (x y : Nat) (hx : x < a.length) (hy : y < b.length), (pairsL f a b)[x * b.length + y]? = some (f a[x] b[y])
  | [], b, x, y, hx, hy => by simp at hx
  | z :: a, b, 0, y, hx, hy => by
    unfold pairsL
    rw [List.flatMap_cons, Nat.zero_mul, Nat.zero_add, List.getElem?_append_left (by rw [List.length_map]; exact hy), List.getElem?_map, List.getElem?_eq_getElem hy]
    rfl
  | z :: a, b, x + 1, y, hx, hy => by
    have ih := pairsL_at f a b x y (by simpa using hx) hy
    unfold pairsL at ih ⊢
    rw [List.flatMap_cons, List.getElem?_append_right (by rw [List.length_map, Nat.add_mul, Nat.one_mul]; omega), List.length_map]
    rw [show (x + 1) * b.length + y - b.length = x * b.length + y by rw [Nat.add_mul, Nat.one_mul]; omega]
    exact ih
theorem pairsL_sorted {α : Type} {R : α → α → Prop} {f : α → α → α} {a b : List α} (h1 : ∀ x ∈ a, ∀ x' ∈ a, R x x' → ∀ y ∈ b, ∀ y' ∈ b, R (f x y) (f x' y')) (h2 : ∀ x ∈ a, ∀ y ∈ b, ∀ y' ∈ b, R y y' → R (f x y) (f x y')) (ha : a.Pairwise R) (hb : b.Pairwise R) : (pairsL f a b).Pairwise R := by
  unfold pairsL
  rw [List.pairwise_flatMap]
  refine ⟨fun x hx => ?_, ha.imp_of_mem fun {x x'} hx hx' hr p hp q hq => ?_⟩
  · rw [List.pairwise_map]
    exact hb.imp_of_mem fun {y y'} hy hy' hr => h2 x hx y hy y' hy' hr
  · rw [List.mem_map] at hp hq
    obtain ⟨y, hy, rfl⟩ := hp
    obtain ⟨y', hy', rfl⟩ := hq
    exact h1 x hx x' hx' hr y hy y' hy'
theorem mem_comp {y : List Int} : y ∈ compL n l ↔ comB n l y = true := by
  unfold compL
  rw [List.mem_filter, mem_labs]
  exact ⟨fun h => h.2, fun h => ⟨(comB_iff.1 h).1, h⟩⟩
theorem comp_len {y : List Int} (h : y ∈ compL n l) : y.length = n := (labB_iff.1 (comB_iff.1 (mem_comp.1 h)).1).1
theorem comp_sorted (n : Nat) (l : List (Int × Int)) : (compL n l).Pairwise lexL := (labs_sorted n).filter _
theorem two_comp (hv : InR n l) (hw : InR m k) (hnm : InR (n + m) (twoL n l k)) : compL (n + m) (twoL n l k) = pairsL (· ++ ·) (compL n l) (compL m k) := by
  refine sorted_extR lexL_asymm (comp_sorted ..) (pairsL_sorted (fun x hx x' hx' h y _ y' _ => lex_app ((comp_len hx).trans (comp_len hx').symm) ⟨h, lexL_ne h⟩) (fun x _ y _ y' _ h => lex_app2 h) (comp_sorted ..) (comp_sorted ..)) fun y => ?_
  unfold pairsL
  rw [mem_comp, List.mem_flatMap]
  constructor
  · intro h
    have hl := (labB_iff.1 (comB_iff.1 h).1).1
    have e : y.take n ++ y.drop n = y := List.take_append_drop ..
    rw [← e] at h
    obtain ⟨h1, h2⟩ := (two_com hv hw hnm (by rw [List.length_take]; omega)).1 h
    exact ⟨_, mem_comp.2 h1, List.mem_map.2 ⟨_, mem_comp.2 h2, e⟩⟩
  · rintro ⟨a, ha, hy⟩
    rw [List.mem_map] at hy
    obtain ⟨b, hb, rfl⟩ := hy
    exact (two_com hv hw hnm (comp_len ha)).2 ⟨mem_comp.1 ha, mem_comp.1 hb⟩
/-- a set of the first part and one of the second -/
def joinM (n a b : Nat) : Nat := a ||| b <<< n
theorem has_join {n a b j : Nat} : has (joinM n a b) j ↔ has a j ∨ (n ≤ j ∧ has b (j - n)) := by
  unfold joinM
  rw [has_or]
  unfold has
  rw [Nat.testBit_shiftLeft]
  simp
theorem two_nav (hv : InR n l) (hw : InR m k) {a b : Nat} (ha : a < 2 ^ n) : Nav (n + m) (twoL n l k) (joinM n a b) ↔ Nav n l a ∧ Nav m k b := by
  have hlo : ∀ j, j < n → (has (joinM n a b) j ↔ has a j) := fun j hj => by rw [has_join]; exact ⟨fun h => h.elim id fun h => absurd h.1 (by omega), .inl⟩
  have hhi : ∀ j, has (joinM n a b) (n + j) ↔ has b j := fun j => by
    rw [has_join, Nat.add_sub_cancel_left]
    exact ⟨fun h => h.elim (fun h => absurd (has_lt ha h) (by omega)) fun h => h.2, fun h => .inr ⟨by omega, h⟩⟩
  have hor : ∀ j, has (joinM n a b) j → (j < n ∧ has a j) ∨ ∃ i, j = n + i ∧ has b i := fun j hj => by
    rcases has_join.1 hj with h | ⟨h1, h2⟩
    · exact .inl ⟨has_lt ha h, h⟩
    · exact .inr ⟨j - n, by omega, h2⟩
  constructor
  · intro h
    refine ⟨⟨fun j hj => has_lt ha hj, fun i j hi hj hc => h.free i j ((hlo i (has_lt ha hi)).2 hi) ((hlo j (has_lt ha hj)).2 hj) ((two_left hv hw (.inl (has_lt ha hi))).2 hc), fun j hj hs hn => ?_⟩,
      ⟨fun j hj => by have := h.lt (n + j) ((hhi j).2 hj); omega, fun i j hi hj hc => h.free (n + i) (n + j) ((hhi i).2 hi) ((hhi j).2 hj) ((two_right hv hw).2 hc), fun j hj hs hn => ?_⟩⟩
    · obtain ⟨q, h1, h2⟩ := h.most j (by omega) (fun e => hs ((two_left hv hw (.inl hj)).1 e)) (fun e => hn ((hlo j hj).1 e))
      have h3 : confl l j q := h2.elim (fun e => .inl ((two_left hv hw (.inl hj)).1 e)) (fun e => .inr ((two_left hv hw (.inr hj)).1 e))
      have hq : q < n := h3.elim (fun e => (att_lt hv e).2) fun e => (att_lt hv e).1
      exact ⟨q, (hlo q hq).1 h1, h3⟩
    · obtain ⟨q, h1, h2⟩ := h.most (n + j) (by omega) (fun e => hs ((two_right hv hw).1 e)) (fun e => hn ((hhi j).1 e))
      rcases hor q h1 with ⟨h3, _⟩ | ⟨i, rfl, h3⟩
      · exfalso
        rcases h2 with e | e
        · have := (att_lt hv ((two_left hv hw (.inr h3)).1 e)).1; omega
        · have := (att_lt hv ((two_left hv hw (.inl h3)).1 e)).2; omega
      · exact ⟨i, h3, h2.imp (two_right hv hw).1 (two_right hv hw).1⟩
  · rintro ⟨h1, h2⟩
    refine ⟨fun j hj => ?_, fun i j hi hj hc => ?_, fun j hj hs hn => ?_⟩
    · rcases hor j hj with ⟨h, _⟩ | ⟨i, rfl, h⟩
      · omega
      · have := h2.lt i h; omega
    · rcases (two_att hv hw).1 hc with e | ⟨x, y, rfl, rfl, e⟩
      · exact h1.free i j ((hlo i (att_lt hv e).1).1 hi) ((hlo j (att_lt hv e).2).1 hj) e
      · exact h2.free x y ((hhi x).1 hi) ((hhi y).1 hj) e
    · rcases Nat.lt_or_ge j n with h | h
      · obtain ⟨q, h3, h4⟩ := h1.most j h (fun e => hs ((two_left hv hw (.inl h)).2 e)) (fun e => hn ((hlo j h).2 e))
        exact ⟨q, (hlo q (has_lt ha h3)).2 h3, h4.imp (two_left hv hw (.inl h)).2 (two_left hv hw (.inr h)).2⟩
      · obtain ⟨i, rfl⟩ : ∃ i, j = n + i := ⟨j - n, by omega⟩
        obtain ⟨q, h3, h4⟩ := h2.most i (by omega) (fun e => hs ((two_right hv hw).2 e)) (fun e => hn ((hhi i).2 e))
        exact ⟨n + q, (hhi q).2 h3, h4.imp (two_right hv hw).2 (two_right hv hw).2⟩
theorem nav_all_sorted (n : Nat) (l : List (Int × Int)) : (navL n l).Pairwise lexM := (masks_sorted n 0).filter _
theorem lexM_ne {a b : Nat} (h : lexM a b) : a ≠ b := fun e => by subst e; exact lexM_asymm h h
theorem two_navL (hv : InR n l) (hw : InR m k) : navL (n + m) (twoL n l k) = pairsL (joinM n) (navL n l) (navL m k) := by
  have lo : ∀ {a b j : Nat}, a ∈ navL n l → j < n → (has (joinM n a b) j ↔ has a j) := fun {a b j} _ hj => by rw [has_join]; exact ⟨fun h => h.elim id fun h => absurd h.1 (by omega), .inl⟩
  refine sorted_extR lexM_asymm (nav_all_sorted ..) (pairsL_sorted (fun x hx x' hx' h y _ y' _ => ?_) (fun x hx y _ y' _ h => ?_) (nav_all_sorted ..) (nav_all_sorted ..)) fun y => ?_
  · obtain ⟨i, h1, h2, h3⟩ := h
    have hi := (mem_navL.1 hx).lt i h2
    exact ⟨i, fun j hj => by rw [lo hx (by omega), lo hx' (by omega)]; exact h1 j hj, (lo hx hi).2 h2, fun e => h3 ((lo hx' hi).1 e)⟩
  · obtain ⟨i, h1, h2, h3⟩ := h
    have hx2 := mem_navL.1 hx
    refine ⟨n + i, fun j hj => ?_, has_join.2 (.inr ⟨by omega, by rw [Nat.add_sub_cancel_left]; exact h2⟩), fun e => ?_⟩
    · rw [has_join, has_join]
      rcases Nat.lt_or_ge j n with h | h
      · exact ⟨fun e => e.imp id fun e => absurd e.1 (by omega), fun e => e.imp id fun e => absurd e.1 (by omega)⟩
      · rw [h1 (j - n) (by omega)]
    · rcases has_join.1 e with e | e
      · have := hx2.lt _ e; omega
      · rw [Nat.add_sub_cancel_left] at e; exact h3 e.2
  · unfold pairsL
    rw [mem_navL, List.mem_flatMap]
    constructor
    · intro h
      have e : joinM n (y &&& allN n) (y >>> n) = y := has_ext fun j => by
        rw [has_join, has_and, has_allN]
        unfold has
        rw [Nat.testBit_shiftRight]
        rcases Nat.lt_or_ge j n with hj | hj
        · exact ⟨fun h => h.elim (fun h => h.1) fun h => absurd h.1 (by omega), fun h => .inl ⟨h, hj⟩⟩
        · rw [Nat.add_sub_cancel' hj]
          exact ⟨fun h => h.elim (fun h => h.1) fun h => h.2, fun h => .inr ⟨hj, h⟩⟩
      have ha : y &&& allN n < 2 ^ n := Nat.lt_of_le_of_lt Nat.and_le_right (allN_lt n)
      rw [← e] at h
      obtain ⟨h1, h2⟩ := (two_nav hv hw ha).1 h
      exact ⟨_, mem_navL.2 h1, List.mem_map.2 ⟨_, mem_navL.2 h2, e⟩⟩
    · rintro ⟨a, ha, hy⟩
      rw [List.mem_map] at hy
      obtain ⟨b, hb, rfl⟩ := hy
      exact (two_nav hv hw (mem_navL.1 ha).lt2).2 ⟨mem_navL.1 ha, mem_navL.1 hb⟩
end
/-- n pairs of nodes that attack each other -/
def prL (n : Nat) : List (Int × Int) := (List.range n).flatMap fun (i : Nat) => [(2 * (i : Int), 2 * (i : Int) + 1), (2 * (i : Int) + 1, 2 * (i : Int))]
theorem prL_succ (n : Nat) : prL (n + 1) = twoL (2 * n) (prL n) (prL 1) := by
  unfold prL twoL
  rw [List.range_succ, List.flatMap_append]
  simp [shP, List.range_succ]
theorem prL_length (n : Nat) : (prL n).length = 2 * n := by
  induction n with
  | zero => rfl
  | succ n ih => rw [prL_succ]; unfold twoL; rw [List.length_append, List.length_map, ih]; rfl
theorem prL_one : Vld 2 (prL 1) := ⟨⟨by decide, by decide, by decide⟩, by unfold ltP; decide⟩
theorem prL_vld : ∀ n : Nat, n ≤ 20 → Vld (2 * n) (prL n)
  | 0, _ => ⟨⟨by decide, by decide, fun p hp => by simp [prL] at hp⟩, by simp [prL]⟩
  | n + 1, h => by
    rw [prL_succ, show 2 * (n + 1) = 2 * n + 2 by omega]
    exact two_vld (prL_vld n (by omega)) prL_one (by omega)
theorem pr_comp : ∀ n : Nat, n ≤ 20 → (compL (2 * n) (prL n)).length = 3 ^ n
  | 0, _ => by decide
  | n + 1, h => by
    rw [prL_succ, show 2 * (n + 1) = 2 * n + 2 by omega, two_comp (prL_vld n (by omega)).1 prL_one.1 (two_vld (prL_vld n (by omega)) prL_one (by omega)).1, pairsL_length, pr_comp n (by omega), Nat.pow_succ]
    congr 1
theorem pr_nav : ∀ n : Nat, n ≤ 20 → (navL (2 * n) (prL n)).length = 2 ^ n
  | 0, _ => by decide
  | n + 1, h => by
    rw [prL_succ, show 2 * (n + 1) = 2 * n + 2 by omega, two_navL (prL_vld n (by omega)).1 prL_one.1, pairsL_length, pr_nav n (by omega), Nat.pow_succ]
    congr 1
/-- no naive set is contained in another -/
theorem nav_anti {n : Nat} {l : List (Int × Int)} {a b : Nat} (ha : Nav n l a) (hb : Nav n l b) (h : sub a b) : a = b := by
  refine has_ext fun j => ⟨h j, fun hj => Classical.byContradiction fun hn => ?_⟩
  obtain ⟨k, hk, hc⟩ := ha.most j (hb.lt j hj) (hb.free j j hj hj) hn
  exact hc.elim (hb.free j k hj (h k hk)) (hb.free k j (h k hk) hj)

/-- three nodes, the others fixed: at most three naive sets -/
def low3 (m : Nat) : Nat := m % 8
theorem has_low {m j : Nat} : has (low3 m) j ↔ j < 3 ∧ has m j := by
  unfold low3 has
  rw [show (8 : Nat) = 2 ^ 3 by rfl, Nat.testBit_mod_two_pow]; simp
theorem anti8 : ∀ s : Fin 256, (∀ a : Fin 8, ∀ b : Fin 8, s.val.testBit a.val = true → s.val.testBit b.val = true → a.val &&& b.val = a.val → a = b) → ((List.range 8).filter s.val.testBit).length ≤ 3 := by decide +kernel
theorem sub_len : ∀ {L M : List Nat}, L.Nodup → (∀ x ∈ L, x ∈ M) → L.length ≤ M.length
  | [], _, _, _ => by simp
  | a :: L, M, hn, h => by
    obtain ⟨h1, h2⟩ := List.nodup_cons.1 hn
    have ha := h a (List.mem_cons_self ..)
    have h3 := sub_len (L := L) (M := M.erase a) h2 fun x hx => (List.mem_erase_of_ne fun e => h1 (by rw [← e]; exact hx)).2 (h x (List.mem_cons_of_mem _ hx))
    rw [List.length_erase_of_mem ha] at h3
    have := List.length_pos_of_mem ha
    rw [List.length_cons]; omega
theorem anti_le {L : List Nat} (hn : L.Nodup) (hl : ∀ x ∈ L, x < 8) (ha : ∀ x ∈ L, ∀ y ∈ L, sub x y → x = y) : L.length ≤ 3 := by
  have hm : ∀ j, (maskN (L.map fun (x : Nat) => (x : Int))).testBit j = true ↔ j ∈ L := fun j => by
    have h1 : has (maskN (L.map fun (x : Nat) => (x : Int))) j ↔ (j : Int) ∈ L.map fun (x : Nat) => (x : Int) := has_maskN fun y hy => by
      rw [List.mem_map] at hy; obtain ⟨x, _, rfl⟩ := hy; omega
    refine h1.trans ?_
    rw [List.mem_map]
    constructor
    · rintro ⟨x, hx, e⟩
      have : x = j := by omega
      subst this; exact hx
    · intro h; exact ⟨j, h, rfl⟩
  have hlt : maskN (L.map fun (x : Nat) => (x : Int)) < 2 ^ 8 := maskN_lt _ 8 fun y hy => by
    rw [List.mem_map] at hy; obtain ⟨x, hx, rfl⟩ := hy
    have := hl x hx; omega
  have h3 := anti8 ⟨maskN (L.map fun (x : Nat) => (x : Int)), hlt⟩ fun a b hA hB hab => by
    have := ha a.val ((hm _).1 hA) b.val ((hm _).1 hB) (and_subB.1 (by rw [beq_iff_eq]; exact hab))
    exact Fin.ext this
  refine Nat.le_trans ?_ h3
  refine sub_len hn fun x hx => ?_
  rw [List.mem_filter, List.mem_range]
  exact ⟨hl x hx, (hm x).2 hx⟩
theorem len_by {α : Type} (f : α → Nat) (c : Nat) : ∀ (k : Nat) (L : List α), (∀ x ∈ L, f x < k) → (∀ v, (L.filter fun x => f x == v).length ≤ c) → L.length ≤ k * c
  | 0, L, h, _ => by
    cases L with
    | nil => simp
    | cons x L => have := h x (List.mem_cons_self ..); omega
  | k + 1, L, h, hc => by
    have h1 : L.length = (L.filter fun x => f x == k).length + (L.filter fun x => !(f x == k)).length := by
      rw [← List.countP_eq_length_filter, ← List.countP_eq_length_filter, List.length_eq_countP_add_countP (fun x => f x == k)]
      congr 2
      funext a
      cases f a == k <;> rfl
    have h2 := len_by f c k (L.filter fun x => !(f x == k)) (fun x hx => by
      rw [List.mem_filter] at hx
      have := h x hx.1
      have h3 : f x ≠ k := by simpa using hx.2
      omega) fun v => by
        rw [List.filter_filter]
        refine Nat.le_trans ?_ (hc v)
        rw [← List.countP_eq_length_filter, ← List.countP_eq_length_filter]
        exact List.countP_mono_left fun x _ hx => by rw [Bool.and_eq_true] at hx; exact hx.1
    have h3 := hc k
    rw [h1, Nat.add_mul, Nat.one_mul]
    omega
theorem nav_few {n : Nat} {l : List (Int × Int)} (hn : n ≤ 9) : (navL n l).length ≤ 200 := by
  have h := len_by (fun m => m / 8) 3 64 (navL n l) (fun x hx => by
    have h1 := (mem_navL.1 hx).lt2
    have h2 := Nat.pow_le_pow_right (n := 2) (by omega) hn
    have : x / 8 < 64 := by omega
    exact this) fun v => by
      have hnd : (navL n l).Nodup := (nav_all_sorted n l).imp fun h => lexM_ne h
      have h1 : ((navL n l).filter fun x => x / 8 == v).length = (((navL n l).filter fun x => x / 8 == v).map low3).length := by rw [List.length_map]
      rw [h1]
      have hmem : ∀ x, x ∈ (navL n l).filter (fun x => x / 8 == v) → Nav n l x ∧ x = 8 * v + low3 x := fun x hx => by
        rw [List.mem_filter, mem_navL, beq_iff_eq] at hx
        refine ⟨hx.1, ?_⟩
        unfold low3; omega
      refine anti_le ?_ (fun x hx => ?_) fun x hx y hy h => ?_
      · rw [List.nodup_iff_pairwise_ne, List.pairwise_map]
        refine (List.nodup_iff_pairwise_ne.1 (hnd.filter _)).imp_of_mem fun {a b} ha hb hab e => hab ?_
        rw [(hmem a ha).2, (hmem b hb).2, e]
      · rw [List.mem_map] at hx
        obtain ⟨a, _, rfl⟩ := hx
        unfold low3; omega
      · rw [List.mem_map] at hx hy
        obtain ⟨a, ha, rfl⟩ := hx
        obtain ⟨b, hb, rfl⟩ := hy
        have hab : a = b := nav_anti (hmem a ha).1 (hmem b hb).1 fun j hj => by
          rcases Nat.lt_or_ge j 3 with h3 | h3
          · exact (has_low.1 (h j (has_low.2 ⟨h3, hj⟩))).2
          · have hd : ∀ {x : Nat}, x ∈ (navL n l).filter (fun x => x / 8 == v) → (has x j ↔ has v (j - 3)) := fun {x} hx => by
              rw [List.mem_filter, beq_iff_eq] at hx
              rw [← hx.2]
              unfold has
              rw [show (8 : Nat) = 2 ^ 3 by rfl, Nat.testBit_div_two_pow, Nat.sub_add_cancel h3]
            exact (hd hb).2 ((hd ha).1 hj)
        rw [hab]
  omega
end Go.Proofs.YtncimnfhfomddaaDoor
