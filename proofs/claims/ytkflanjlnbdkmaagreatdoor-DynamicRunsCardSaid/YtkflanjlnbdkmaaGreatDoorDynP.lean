/- A graph that changes, and its grounded labelling. Plain words, no program in sight. -/
import Derived.Test.YtkflanjlnbdkmaaGreatDoorPlainLoc
import Derived.Test.YtkflanjlnbdkmaaGreatDoorRv10
import Derived.Test.YtkflanjlnbdkmaaGreatDoorLov
namespace Go.Proofs.YtkflanjlnbdkmaaGreatDoor
open Go.ChangeShapes Go.WideShapes Go.ChangeAt Go.RowKit

/-! The pairs of a square, row by row. -/
def rowG (m : Nat) (p : Nat → Nat → Bool) (a : Nat) : List (Int × Int) := ((List.range m).filter (p a)).map fun (b : Nat) => ((a : Int), (b : Int))
def gridR (m : Nat) (p : Nat → Nat → Bool) : Nat → List (Int × Int)
  | 0 => []
  | k + 1 => gridR m p k ++ rowG m p k
def gridL (m : Nat) (p : Nat → Nat → Bool) : List (Int × Int) := gridR m p m
theorem mem_rowG {m : Nat} {p : Nat → Nat → Bool} {a : Nat} {q : Int × Int} : q ∈ rowG m p a ↔ ∃ b : Nat, b < m ∧ p a b = true ∧ q = ((a : Int), (b : Int)) := by
  unfold rowG
  rw [List.mem_map]
  constructor
  · rintro ⟨b, hb, rfl⟩
    rw [List.mem_filter, List.mem_range] at hb
    exact ⟨b, hb.1, hb.2, rfl⟩
  · rintro ⟨b, h1, h2, rfl⟩
    exact ⟨b, List.mem_filter.2 ⟨List.mem_range.2 h1, h2⟩, rfl⟩
theorem mem_gridR {m : Nat} {p : Nat → Nat → Bool} {q : Int × Int} : ∀ {k : Nat}, q ∈ gridR m p k ↔ ∃ a b : Nat, a < k ∧ b < m ∧ p a b = true ∧ q = ((a : Int), (b : Int))
  | 0 => by
    constructor
    · intro h; cases h
    · rintro ⟨a, _, h, _⟩; omega
  | k + 1 => by
    unfold gridR
    rw [List.mem_append, mem_gridR, mem_rowG]
    constructor
    · rintro (⟨a, b, h1, h⟩ | ⟨b, h⟩)
      · exact ⟨a, b, by omega, h⟩
      · exact ⟨k, b, by omega, h⟩
    · rintro ⟨a, b, h1, h⟩
      by_cases hk : a = k
      · subst hk; exact .inr ⟨b, h⟩
      · exact .inl ⟨a, b, by omega, h⟩
theorem mem_gridL {m : Nat} {p : Nat → Nat → Bool} {q : Int × Int} : q ∈ gridL m p ↔ ∃ a b : Nat, a < m ∧ b < m ∧ p a b = true ∧ q = ((a : Int), (b : Int)) := mem_gridR
theorem rowG_sorted (m : Nat) (p : Nat → Nat → Bool) (a : Nat) : (rowG m p a).Pairwise ltP := by
  unfold rowG
  rw [List.pairwise_map]
  refine ((List.pairwise_lt_range (n := m)).filter _).imp fun {x y} h => ?_
  unfold ltP; dsimp only; omega
theorem gridR_sorted (m : Nat) (p : Nat → Nat → Bool) : ∀ k, (gridR m p k).Pairwise ltP
  | 0 => .nil
  | k + 1 => by
    unfold gridR
    rw [List.pairwise_append]
    refine ⟨gridR_sorted m p k, rowG_sorted m p k, fun x hx y hy => ?_⟩
    obtain ⟨a, b, h1, _, _, rfl⟩ := mem_gridR.1 hx
    obtain ⟨d, _, _, rfl⟩ := mem_rowG.1 hy
    unfold ltP; dsimp only; omega
theorem rowG_len (m : Nat) (p : Nat → Nat → Bool) (a : Nat) : (rowG m p a).length ≤ m := by
  unfold rowG
  rw [List.length_map]
  have := List.length_filter_le (p a) (List.range m)
  rwa [List.length_range] at this
theorem gridR_len (m : Nat) (p : Nat → Nat → Bool) : ∀ k, (gridR m p k).length ≤ k * m
  | 0 => by simp [gridR]
  | k + 1 => by
    unfold gridR
    rw [List.length_append, Nat.succ_mul]
    have := gridR_len m p k
    have := rowG_len m p k
    omega
theorem grid_vld {m : Nat} (hm : m ≤ 40) (p : Nat → Nat → Bool) : Vld m (gridL m p) := by
  refine ⟨⟨hm, ?_, fun q hq => ?_⟩, gridR_sorted m p m⟩
  · have := gridR_len m p m
    have : m * m ≤ 40 * 40 := Nat.mul_le_mul hm hm
    unfold gridL; omega
  · obtain ⟨a, b, h1, h2, _, rfl⟩ := mem_gridL.1 hq
    dsimp only; omega

/-! The changed graph. -/
def chN (n : Nat) (k : Int) : Nat := if k = 3 then n + 1 else if k = 4 then n - 1 else n
def chgB (l : List (Int × Int)) (k f t : Int) (a b : Nat) : Bool := hasB l a b && !(k == 2 && (f == a && t == b)) || (k == 1 && (f == a && t == b))
def chL (n : Nat) (l : List (Int × Int)) (k f t : Int) : List (Int × Int) := gridL (chN n k) (chgB l k f t)
def chkE (n : Nat) (l : List (Int × Int)) (k f t : Int) : Int :=
  if k < 1 ∨ 4 < k then 4 else if 3 ≤ k then (if f ≠ 0 ∨ t ≠ 0 then 1 else if k = 3 ∧ n = 40 then 2 else if k = 4 ∧ n = 0 then 9 else 0)
  else if f < 0 ∨ n ≤ f ∨ t < 0 ∨ n ≤ t then 1 else if k = 1 ∧ hasB l f t = true then 5 else if k = 2 ∧ hasB l f t = false then 6 else 0
theorem chN_le {n : Nat} {l : List (Int × Int)} {k f t : Int} (hn : n ≤ 40) (h : chkE n l k f t = 0) : chN n k ≤ 40 := by
  unfold chkE at h
  unfold chN
  split at h
  · omega
  · split at h
    · split at h
      · omega
      · split at h
        · omega
        · split at h
          · omega
          · split
            · omega
            · split <;> omega
    · split
      · omega
      · split <;> omega
theorem ch_vld {n : Nat} {l : List (Int × Int)} {k f t : Int} (hn : n ≤ 40) (h : chkE n l k f t = 0) : Vld (chN n k) (chL n l k f t) := grid_vld (chN_le hn h) _
theorem att_ch {n : Nat} {l : List (Int × Int)} {k f t : Int} {a b : Nat} : att (chL n l k f t) a b ↔ a < chN n k ∧ b < chN n k ∧ chgB l k f t a b = true := by
  unfold att chL
  rw [mem_gridL]
  constructor
  · rintro ⟨x, y, h1, h2, h3, h4⟩
    injection h4 with h4 h5
    have : a = x := by omega
    have : b = y := by omega
    subst x; subst y
    exact ⟨h1, h2, h3⟩
  · exact fun ⟨h1, h2, h3⟩ => ⟨a, b, h1, h2, h3, rfl⟩

/-! The label that the attackers of a node give it. -/
def labS (l : List (Int × Int)) (L : Nat → Int) (i : Nat) : Int := if (attackersL l i).any (fun a => L a.toNat == 1) then 2 else if (attackersL l i).any (fun a => L a.toNat == 3) then 3 else 1
theorem labS_out {n : Nat} {l : List (Int × Int)} (hv : InR n l) {L : Nat → Int} {i a : Nat} (ha : att l a i) (h : L a = 1) : labS l L i = 2 := by
  unfold labS
  rw [if_pos ((any_attackers hv (p := fun a => L a == 1)).2 ⟨a, ha, by simp [h]⟩)]
theorem labS_in {n : Nat} {l : List (Int × Int)} (hv : InR n l) {L : Nat → Int} {i : Nat} (h : ∀ a, att l a i → L a = 2) : labS l L i = 1 := by
  unfold labS
  rw [if_neg, if_neg]
  · intro hh
    obtain ⟨a, ha, h3⟩ := (any_attackers hv (p := fun a => L a == 3)).1 hh
    have := h a ha
    simp [this] at h3
  · intro hh
    obtain ⟨a, ha, h3⟩ := (any_attackers hv (p := fun a => L a == 1)).1 hh
    have := h a ha
    simp [this] at h3
theorem labS_cases {n : Nat} {l : List (Int × Int)} (hv : InR n l) (L : Nat → Int) (i : Nat) : (labS l L i = 2 ∧ ∃ a, att l a i ∧ L a = 1) ∨ (labS l L i = 3 ∧ ∃ a, att l a i ∧ L a = 3) ∨ (labS l L i = 1 ∧ ∀ a, att l a i → L a ≠ 1 ∧ L a ≠ 3) := by
  by_cases h1 : (attackersL l i).any (fun a => L a.toNat == 1) = true
  · obtain ⟨a, ha, h⟩ := (any_attackers hv (p := fun a => L a == 1)).1 h1
    have h := beq_iff_eq.1 h
    exact .inl ⟨labS_out hv ha h, a, ha, h⟩
  · by_cases h3 : (attackersL l i).any (fun a => L a.toNat == 3) = true
    · obtain ⟨a, ha, h⟩ := (any_attackers hv (p := fun a => L a == 3)).1 h3
      have h := beq_iff_eq.1 h
      refine .inr (.inl ⟨?_, a, ha, h⟩)
      unfold labS
      rw [if_neg h1, if_pos h3]
    · refine .inr (.inr ⟨?_, fun a ha => ⟨fun h => h1 ?_, fun h => h3 ?_⟩⟩)
      · unfold labS
        rw [if_neg h1, if_neg h3]
      · exact (any_attackers hv (p := fun a => L a == 1)).2 ⟨a, ha, by simp [h]⟩
      · exact (any_attackers hv (p := fun a => L a == 3)).2 ⟨a, ha, by simp [h]⟩
theorem labS_congr {n : Nat} {l : List (Int × Int)} (hv : InR n l) {L M : Nat → Int} {i : Nat} (h : ∀ a, att l a i → L a = M a) : labS l L i = labS l M i := by
  rcases labS_cases hv L i with ⟨e, a, ha, h1⟩ | ⟨e, a, ha, h3⟩ | ⟨e, hh⟩
  · rw [e, labS_out hv ha (by rw [← h a ha]; exact h1)]
  · rcases labS_cases hv M i with ⟨e', b, hb, h1⟩ | ⟨e', _⟩ | ⟨e', hh⟩
    · rw [← h b hb] at h1
      rw [labS_out hv hb h1] at e; omega
    · rw [e, e']
    · have := (hh a ha).2
      rw [← h a ha] at this
      exact absurd h3 this
  · rcases labS_cases hv M i with ⟨e', b, hb, h1⟩ | ⟨e', b, hb, h3⟩ | ⟨e', _⟩
    · rw [← h b hb] at h1; exact absurd h1 (hh b hb).1
    · rw [← h b hb] at h3; exact absurd h3 (hh b hb).2
    · rw [e, e']
/-- a label that sound labels give is right -/
theorem lab_sound {n : Nat} {l : List (Int × Int)} (hv : InR n l) {L : Nat → Int} (hr : ∀ i, i < n → L i = 1 ∨ L i = 2 ∨ L i = 3) (hs : ∀ i, i < n → L i ≠ 3 → L i = grL n l i) {i : Nat} (hi : i < n) (h : labS l L i ≠ 3) : grL n l i = labS l L i := by
  have hg := gr_inv hv
  rcases labS_cases hv L i with ⟨e, a, ha, h1⟩ | ⟨e, _⟩ | ⟨e, hh⟩
  · rw [e]
    have := hs a (att_lt hv ha).1 (by omega)
    exact hg.outs a i (by omega) ha
  · exact absurd e h
  · rw [e]
    have h2 : ∀ a, att l a i → grL n l a = 2 := fun a ha => by
      have h1 := hh a ha
      have := hr a (att_lt hv ha).1
      have := hs a (att_lt hv ha).1 h1.2
      omega
    rcases hg.rng i with g | g | g
    · exact g
    · obtain ⟨a, ha, h1⟩ := hg.isOut i g
      have := h2 a ha
      omega
    · have := gr_rest hv i hi
      rw [(frB_iff hv).2 ⟨hi, g, h2⟩] at this
      cases this
/-- sound labels at which nothing is left to do are the grounded ones -/
theorem lab_done {n : Nat} {l : List (Int × Int)} (hv : InR n l) {L : Nat → Int} (hs : ∀ i, i < n → L i ≠ 3 → L i = grL n l i) (hf : ∀ i, i < n → L i = 3 → labS l L i = 3) : ∀ i, i < n → L i = grL n l i := by
  have hg := gr_inv hv
  have key : ∀ r i, i < n → stL n l r i ≠ 3 → L i = stL n l r i := by
    intro r
    induction r with
    | zero => intro i _ h; exact absurd rfl h
    | succ r ih =>
      have one : ∀ i, i < n → frB n l (stL n l r) i = true → L i = 1 := fun i hi h => by
        obtain ⟨_, h3, ha⟩ := (frB_iff hv).1 h
        have ho : ∀ a, att l a i → L a = 2 := fun a hat => by
          have := ha a hat
          rw [ih a (att_lt hv hat).1 (by omega), this]
        have h1 := labS_in hv ho
        have hL : L i ≠ 3 := fun e => by have := hf i hi e; omega
        rw [hs i hi hL]
        rcases hg.rng i with g | g | g
        · exact g
        · obtain ⟨a, hat, g1⟩ := hg.isOut i g
          have := ho a hat
          have := hs a (att_lt hv hat).1 (by omega)
          omega
        · rw [← hs i hi hL] at g; exact absurd g hL
      intro i hi h
      by_cases h1 : frB n l (stL n l r) i = true
      · rw [one i hi h1]
        show (1 : Int) = nxL n l (stL n l r) i
        simp [nxL, h1]
      · by_cases h2 : gHitB n l (stL n l r) i = true
        · obtain ⟨_, _, a, hat, hfa⟩ := (gHitB_iff hv).1 h2
          have ha1 := one a (att_lt hv hat).1 hfa
          have hL : L i ≠ 3 := fun e => by have := hf i hi e; rw [labS_out hv hat ha1] at this; omega
          have hga := hs a (att_lt hv hat).1 (by omega)
          have := hg.outs a i (by omega) hat
          rw [hs i hi hL, this]
          show (2 : Int) = nxL n l (stL n l r) i
          simp [nxL, h1, h2]
        · have e : stL n l (r + 1) i = stL n l r i := by
            show nxL n l (stL n l r) i = _
            simp [nxL, h1, h2]
          rw [e] at h ⊢
          exact ih i hi h
  intro i hi
  by_cases h : grL n l i = 3
  · by_cases hL : L i = 3
    · rw [hL, h]
    · exact hs i hi hL
  · exact key n i hi h

/-! The list of work. -/
structure WkI (n : Nat) (l : List (Int × Int)) (L : Nat → Int) (q : List Int) : Prop where
  rng : ∀ i, i < n → L i = 1 ∨ L i = 2 ∨ L i = 3
  snd : ∀ i, i < n → L i ≠ 3 → L i = grL n l i
  opn : ∀ i : Nat, i < n → L i = 3 → labS l L i ≠ 3 → (i : Int) ∈ q
  inr : ∀ x ∈ q, ∃ j : Nat, j < n ∧ x = j
theorem WkI.done {n : Nat} {l : List (Int × Int)} (hv : InR n l) {L : Nat → Int} (h : WkI n l L []) : ∀ i, i < n → L i = grL n l i :=
  lab_done hv h.snd fun i hi h3 => by
    by_cases hh : labS l L i = 3
    · exact hh
    · cases h.opn i hi h3 hh
theorem WkI.skip {n : Nat} {l : List (Int × Int)} {L : Nat → Int} {i : Nat} {q : List Int} (h : WkI n l L ((i : Int) :: q)) (hL : L i ≠ 3) : WkI n l L q :=
  ⟨h.rng, h.snd, fun j hj h3 hh => by
    rcases List.mem_cons.1 (h.opn j hj h3 hh) with e | e
    · have : j = i := by omega
      subst this; exact absurd h3 hL
    · exact e, fun x hx => h.inr x (List.mem_cons_of_mem _ hx)⟩
theorem WkI.none {n : Nat} {l : List (Int × Int)} {L : Nat → Int} {i : Nat} {q : List Int} (h : WkI n l L ((i : Int) :: q)) (hL : labS l L i = 3) : WkI n l L q :=
  ⟨h.rng, h.snd, fun j hj h3 hh => by
    rcases List.mem_cons.1 (h.opn j hj h3 hh) with e | e
    · have : j = i := by omega
      subst this; exact absurd hL hh
    · exact e, fun x hx => h.inr x (List.mem_cons_of_mem _ hx)⟩
theorem WkI.step {n : Nat} {l : List (Int × Int)} (hv : InR n l) {L : Nat → Int} {i : Nat} {q : List Int} (h : WkI n l L ((i : Int) :: q)) (hi : i < n) (hL : labS l L i ≠ 3) : WkI n l (upd L i (labS l L i)) (q ++ attackedL l i) := by
  have hg := lab_sound hv h.rng h.snd hi hL
  refine ⟨fun j hj => ?_, fun j hj hne => ?_, fun j hj h3 hh => ?_, fun x hx => ?_⟩
  · by_cases e : j = i
    · subst e
      rw [upd_same]
      rcases labS_cases hv L j with ⟨e, _⟩ | ⟨e, _⟩ | ⟨e, _⟩ <;> omega
    · rw [upd_ne e]; exact h.rng j hj
  · by_cases e : j = i
    · subst e; rw [upd_same, hg]
    · rw [upd_ne e] at hne ⊢; exact h.snd j hj hne
  · by_cases e : j = i
    · subst e; rw [upd_same] at h3; exact absurd h3 hL
    · rw [upd_ne e] at h3
      rw [List.mem_append]
      by_cases ha : att l i j
      · exact .inr (mem_attackedL.2 ha)
      · refine .inl ?_
        rw [labS_congr hv (M := L) (fun a hat => upd_ne (fun e => ha (by subst e; exact hat)))] at hh
        rcases List.mem_cons.1 (h.opn j hj h3 hh) with e' | e'
        · omega
        · exact e'
  · rcases List.mem_append.1 hx with hx | hx
    · exact h.inr x (List.mem_cons_of_mem _ hx)
    · obtain ⟨a, rfl, ha, _⟩ := attacked_nat hv hx
      exact ⟨a, ha, rfl⟩
theorem und_upd {n : Nat} {L : Nat → Int} {i : Nat} (hi : i < n) (h3 : L i = 3) {x : Int} (hx : x ≠ 3) : undN n (upd L i x) < undN n L := by
  unfold undN
  refine filter_length_lt (fun j _ hj => ?_) ⟨i, List.mem_range.2 hi, by simp [h3], by rw [upd_same]; simp [hx]⟩
  by_cases e : j = i
  · subst e; rw [upd_same] at hj; simp [hx] at hj
  · rw [upd_ne e] at hj; exact hj
theorem attacked_len (l : List (Int × Int)) (i : Int) : (attackedL l i).length ≤ l.length := by
  unfold attackedL
  rw [List.length_map]
  exact List.length_filter_le _ _
/-- how much work is left -/
def wkM (n : Nat) (l : List (Int × Int)) (L : Nat → Int) (q : List Int) : Nat := undN n L * (l.length + 1) + q.length
theorem wkM_step {n : Nat} {l : List (Int × Int)} {L : Nat → Int} {i : Nat} {q : List Int} (hi : i < n) (h3 : L i = 3) {x : Int} (hx : x ≠ 3) : wkM n l (upd L i x) (q ++ attackedL l i) < wkM n l L ((i : Int) :: q) := by
  unfold wkM
  have h1 := und_upd hi h3 hx
  have h2 := attacked_len l i
  have h4 : (undN n (upd L i x) + 1) * (l.length + 1) ≤ undN n L * (l.length + 1) := Nat.mul_le_mul_right _ h1
  rw [Nat.succ_mul] at h4
  simp only [List.length_append, List.length_cons]
  omega
theorem wkM_le {n : Nat} {l : List (Int × Int)} {L : Nat → Int} {q : List Int} {B : Nat} (h : wkM n l L q ≤ B) : q.length ≤ B := by unfold wkM at h; omega

/-! What does not change. -/
theorem st_same {n m : Nat} {l k : List (Int × Int)} (hv : InR n l) (hw : InR m k) {U : Nat → Prop} (h1 : ∀ u, U u → u < n ∧ u < m) (h2 : ∀ u a, U u → (att l a u ↔ att k a u)) (h3 : ∀ a u, U u → att l a u → U a) : ∀ r u, U u → stL n l r u = stL m k r u := by
  intro r
  induction r with
  | zero => intro u _; rfl
  | succ r ih =>
    have hf : ∀ u, U u → frB n l (stL n l r) u = frB m k (stL m k r) u := fun u hu => by
      rw [Bool.eq_iff_iff, frB_iff hv, frB_iff hw, ih u hu]
      constructor
      · rintro ⟨_, a, b⟩
        exact ⟨(h1 u hu).2, a, fun x hx => by have hx := (h2 u x hu).2 hx; rw [← ih x (h3 x u hu hx)]; exact b x hx⟩
      · rintro ⟨_, a, b⟩
        exact ⟨(h1 u hu).1, a, fun x hx => by rw [ih x (h3 x u hu hx)]; exact b x ((h2 u x hu).1 hx)⟩
    have hh : ∀ u, U u → gHitB n l (stL n l r) u = gHitB m k (stL m k r) u := fun u hu => by
      rw [Bool.eq_iff_iff, gHitB_iff hv, gHitB_iff hw, ih u hu, hf u hu]
      constructor
      · rintro ⟨a, b, x, hx, c⟩
        exact ⟨a, b, x, (h2 u x hu).1 hx, by rw [← hf x (h3 x u hu hx)]; exact c⟩
      · rintro ⟨a, b, x, hx, c⟩
        have hx := (h2 u x hu).2 hx
        exact ⟨a, b, x, hx, by rw [hf x (h3 x u hu hx)]; exact c⟩
    intro u hu
    show nxL n l (stL n l r) u = nxL m k (stL m k r) u
    unfold nxL
    rw [hf u hu, hh u hu, ih u hu]
theorem st_far {n : Nat} {l : List (Int × Int)} (hv : InR n l) {r : Nat} (h : n ≤ r) : stL n l r = grL n l := by
  obtain ⟨r0, h0, hr⟩ := rest_at_n hv
  have a := rest_stays hv hr (r - r0)
  have b := rest_stays hv hr (n - r0)
  rw [show r0 + (r - r0) = r by omega] at a
  rw [show r0 + (n - r0) = n by omega] at b
  unfold grL
  rw [a.1, b.1]
theorem gr_same {n m : Nat} {l k : List (Int × Int)} (hv : InR n l) (hw : InR m k) {U : Nat → Prop} (h1 : ∀ u, U u → u < n ∧ u < m) (h2 : ∀ u a, U u → (att l a u ↔ att k a u)) (h3 : ∀ a u, U u → att l a u → U a) {u : Nat} (hu : U u) : grL n l u = grL m k u := by
  have := st_same hv hw h1 h2 h3 (n + m) u hu
  rwa [st_far hv (by omega), st_far hw (by omega)] at this

/-! What a change affects. -/
def rtL (n : Nat) (l : List (Int × Int)) (k t : Int) : List Int := if k = 4 then attackedL l ((n : Int) - 1) else if k = 3 then [(n : Int)] else [t]
def affB (m : Nat) (l : List (Int × Int)) (rs : List Int) (i : Nat) : Bool := rs.any fun r => inB (reachL m l r) i
theorem affB_iff {m : Nat} {l : List (Int × Int)} {rs : List Int} {i : Nat} : affB m l rs i = true ↔ ∃ r ∈ rs, (i : Int) ∈ reachL m l r := by
  unfold affB
  rw [List.any_eq_true]
  constructor
  · rintro ⟨r, h1, h2⟩; exact ⟨r, h1, (inB_iff _ _).1 h2⟩
  · rintro ⟨r, h1, h2⟩; exact ⟨r, h1, (inB_iff _ _).2 h2⟩
theorem mem_reachL {m : Nat} {l : List (Int × Int)} {r x : Int} : x ∈ reachL m l r ↔ ∃ j i : Nat, r = j ∧ j < m ∧ i < m ∧ x = i ∧ has (reachM m l j) i := by
  constructor
  · intro h
    unfold reachL at h
    split at h
    · rename_i hr
      obtain ⟨i, h1, h2, rfl⟩ := mem_nodesB.1 h
      exact ⟨r.toNat, i, by omega, by omega, h1, rfl, h2⟩
    · cases h
  · rintro ⟨j, i, rfl, hj, hi, rfl, h⟩
    rw [reachL_in hj]
    exact mem_nodesB.2 ⟨i, hi, h, rfl⟩
theorem aff_root {m : Nat} {l : List (Int × Int)} (hv : InR m l) {rs : List Int} {i : Nat} (hi : i < m) (h : (i : Int) ∈ rs) : affB m l rs i = true :=
  affB_iff.2 ⟨i, h, mem_reachL.2 ⟨i, i, rfl, hi, hi, rfl, reach_self hv i⟩⟩
theorem aff_step {m : Nat} {l : List (Int × Int)} (hv : InR m l) {rs : List Int} {a b : Nat} (h : affB m l rs a = true) (hab : att l a b) : affB m l rs b = true := by
  obtain ⟨r, hr, hx⟩ := affB_iff.1 h
  obtain ⟨j, i, rfl, hj, hi, e, hh⟩ := mem_reachL.1 hx
  have : a = i := by omega
  subst this
  exact affB_iff.2 ⟨j, hr, mem_reachL.2 ⟨j, b, rfl, hj, (att_lt hv hab).2, rfl, reach_step hv hj hh hab⟩⟩
theorem chk_kind {n : Nat} {l : List (Int × Int)} {k f t : Int} (h : chkE n l k f t = 0) : (k = 1 ∧ hasB l f t = false ∨ k = 2 ∧ hasB l f t = true) ∧ (0 ≤ f ∧ f < n ∧ 0 ≤ t ∧ t < n) ∨ (k = 3 ∧ n ≠ 40 ∨ k = 4 ∧ n ≠ 0) ∧ f = 0 ∧ t = 0 := by
  unfold chkE at h
  cases hb : hasB l f t <;> simp only [hb] at h <;> (split at h; · omega) <;> (split at h)
  · split at h
    · omega
    · split at h
      · omega
      · split at h <;> omega
  · split at h
    · omega
    · split at h
      · omega
      · split at h
        · omega
        · simp at *; omega
  · split at h
    · omega
    · split at h
      · omega
      · split at h <;> omega
  · split at h
    · omega
    · split at h
      · omega
      · simp at *; omega
theorem ch_same {n : Nat} {l : List (Int × Int)} (hv : InR n l) {k f t : Int} (h : chkE n l k f t = 0) {u : Nat} (hu : u < chN n k) (ha : affB (chN n k) (chL n l k f t) (rtL n l k t) u = false) :
    u < n ∧ ∀ a, att l a u ↔ att (chL n l k f t) a u := by
  have hw := (ch_vld hv.1 h).1
  have hroot : (u : Int) ∉ rtL n l k t := fun e => by rw [aff_root hw hu e] at ha; cases ha
  rcases chk_kind h with ⟨⟨rfl, hb⟩ | ⟨rfl, hb⟩, h1, h2, h3, h4⟩ | ⟨⟨rfl, hb⟩ | ⟨rfl, hb⟩, rfl, rfl⟩
  · have hut : t ≠ u := fun e => hroot (by simp [rtL, e])
    refine ⟨hu, fun a => ?_⟩
    rw [att_ch]
    have : chgB l 1 f t a u = hasB l a u := by simp [chgB, hut]
    rw [this, hasB_iff]
    exact ⟨fun e => ⟨(att_lt hv e).1, hu, e⟩, fun e => e.2.2⟩
  · have hut : t ≠ u := fun e => hroot (by simp [rtL, e])
    refine ⟨hu, fun a => ?_⟩
    rw [att_ch]
    have : chgB l 2 f t a u = hasB l a u := by simp [chgB, hut]
    rw [this, hasB_iff]
    exact ⟨fun e => ⟨(att_lt hv e).1, hu, e⟩, fun e => e.2.2⟩
  · have hun : u ≠ n := fun e => hroot (by simp [rtL, e])
    have hu' : u < n + 1 := hu
    refine ⟨by omega, fun a => ?_⟩
    rw [att_ch]
    have : chgB l 3 0 0 a u = hasB l a u := by simp [chgB]
    rw [this, hasB_iff]
    exact ⟨fun e => ⟨Nat.lt_succ_of_lt (att_lt hv e).1, hu, e⟩, fun e => e.2.2⟩
  · have hu' : u < n - 1 := hu
    refine ⟨by omega, fun a => ?_⟩
    rw [att_ch]
    have : chgB l 4 0 0 a u = hasB l a u := by simp [chgB]
    rw [this, hasB_iff]
    refine ⟨fun e => ⟨?_, hu, e⟩, fun e => e.2.2⟩
    show a < n - 1
    have := (att_lt hv e).1
    by_cases ea : a = n - 1
    · subst ea
      refine absurd ?_ hroot
      show (u : Int) ∈ if (4 : Int) = 4 then attackedL l ((n : Int) - 1) else _
      rw [if_pos rfl, mem_attackedL]
      have hc : ((n : Int) - 1) = ((n - 1 : Nat) : Int) := by omega
      rw [hc]; exact e
    · omega
/-- nodes that a change does not affect keep their labels -/
theorem aff_same {n : Nat} {l : List (Int × Int)} (hv : InR n l) {k f t : Int} (h : chkE n l k f t = 0) {u : Nat} (hu : u < chN n k) (ha : affB (chN n k) (chL n l k f t) (rtL n l k t) u = false) :
    u < n ∧ grL n l u = grL (chN n k) (chL n l k f t) u := by
  have hw := (ch_vld hv.1 h).1
  refine ⟨(ch_same hv h hu ha).1, gr_same hv hw (U := fun u => u < chN n k ∧ affB (chN n k) (chL n l k f t) (rtL n l k t) u = false) (fun v hv' => ⟨(ch_same hv h hv'.1 hv'.2).1, hv'.1⟩) (fun v a hv' => (ch_same hv h hv'.1 hv'.2).2 a) (fun a v hv' hav => ?_) ⟨hu, ha⟩⟩
  have hav := ((ch_same hv h hv'.1 hv'.2).2 a).1 hav
  refine ⟨(att_lt hw hav).1, ?_⟩
  cases hb : affB (chN n k) (chL n l k f t) (rtL n l k t) a
  · rfl
  · rw [aff_step hw hb hav] at hv'; cases hv'.2
def affL (m : Nat) (l : List (Int × Int)) (rs : List Int) : List Int := nodesB m (affB m l rs)
/-- the labels with which the work begins -/
def labZ (n : Nat) (l : List (Int × Int)) (m : Nat) (l' : List (Int × Int)) (rs : List Int) : Nat → Int := setQ (affL m l' rs) 3 (fun i => if i < n then grL n l i else 3)
theorem labZ_aff {n : Nat} {l : List (Int × Int)} {m : Nat} {l' : List (Int × Int)} {rs : List Int} {i : Nat} (hi : i < m) (h : affB m l' rs i = true) : labZ n l m l' rs i = 3 := by
  unfold labZ setQ
  rw [if_pos]
  rw [inB_iff]
  exact mem_nodesB.2 ⟨i, hi, h, rfl⟩
theorem labZ_not {n : Nat} {l : List (Int × Int)} {m : Nat} {l' : List (Int × Int)} {rs : List Int} {i : Nat} (h : affB m l' rs i = false) : labZ n l m l' rs i = if i < n then grL n l i else 3 := by
  unfold labZ setQ
  rw [if_neg]
  rw [inB_iff]
  intro hh
  obtain ⟨j, _, hb, e⟩ := mem_nodesB.1 hh
  have : i = j := by omega
  subst this
  rw [h] at hb; cases hb
theorem wk_start {n : Nat} {l : List (Int × Int)} (hv : InR n l) {k f t : Int} (h : chkE n l k f t = 0) : WkI (chN n k) (chL n l k f t) (labZ n l (chN n k) (chL n l k f t) (rtL n l k t)) (affL (chN n k) (chL n l k f t) (rtL n l k t)) := by
  have hw := (ch_vld hv.1 h).1
  have keep : ∀ i, i < chN n k → affB (chN n k) (chL n l k f t) (rtL n l k t) i = false → labZ n l (chN n k) (chL n l k f t) (rtL n l k t) i = grL (chN n k) (chL n l k f t) i := fun i hi hb => by
    obtain ⟨h1, h2⟩ := aff_same hv h hi hb
    rw [labZ_not hb, if_pos h1, h2]
  have cases : ∀ i, i < chN n k → labZ n l (chN n k) (chL n l k f t) (rtL n l k t) i = 3 ∨ labZ n l (chN n k) (chL n l k f t) (rtL n l k t) i = grL (chN n k) (chL n l k f t) i := fun i hi => by
    cases hb : affB (chN n k) (chL n l k f t) (rtL n l k t) i
    · exact .inr (keep i hi hb)
    · exact .inl (labZ_aff hi hb)
  refine ⟨fun i hi => ?_, fun i hi hne => ?_, fun i hi h3 hh => ?_, fun x hx => ?_⟩
  · rcases cases i hi with e | e
    · omega
    · have := (gr_inv hw).rng i; omega
  · rcases cases i hi with e | e
    · exact absurd e hne
    · exact e
  · cases hb : affB (chN n k) (chL n l k f t) (rtL n l k t) i
    · exfalso
      have hc : labS (chL n l k f t) (labZ n l (chN n k) (chL n l k f t) (rtL n l k t)) i = labS (chL n l k f t) (grL (chN n k) (chL n l k f t)) i := labS_congr hw fun a hat => by
        refine keep a (att_lt hw hat).1 ?_
        cases ha : affB (chN n k) (chL n l k f t) (rtL n l k t) a
        · rfl
        · rw [aff_step hw ha hat] at hb; cases hb
      rw [hc] at hh
      have := lab_sound hw (fun i _ => (gr_inv hw).rng i) (fun _ _ _ => rfl) hi hh
      rw [keep i hi hb] at h3
      omega
    · exact mem_nodesB.2 ⟨i, hi, hb, rfl⟩
  · obtain ⟨j, h1, _, h2⟩ := mem_nodesB.1 hx
    exact ⟨j, h1, h2⟩

/-! How the program changes its list of pairs. -/
theorem ins_sorted {l : List (Int × Int)} (hs : l.Pairwise ltP) {p : Int × Int} {i : Nat} (h1 : ∀ q ∈ l.take i, ltP q p) (h2 : ∀ q ∈ l.drop i, ltP p q) : (l.take i ++ p :: l.drop i).Pairwise ltP := by
  rw [List.pairwise_append]
  refine ⟨hs.sublist (List.take_sublist _ _), List.pairwise_cons.2 ⟨h2, hs.sublist (List.drop_sublist _ _)⟩, fun x hx y hy => ?_⟩
  rcases List.mem_cons.1 hy with rfl | hy
  · exact h1 x hx
  · exact ltP_trans (h1 x hx) (h2 y hy)
theorem ch_ext {n : Nat} {l : List (Int × Int)} {k f t : Int} {l' : List (Int × Int)} (hs : l'.Pairwise ltP) (hm : ∀ q, q ∈ l' ↔ ∃ a b : Nat, a < chN n k ∧ b < chN n k ∧ chgB l k f t a b = true ∧ q = ((a : Int), (b : Int))) : l' = chL n l k f t :=
  sortedP_ext _ _ hs (gridR_sorted _ _ _) fun q => by rw [hm, chL, mem_gridL]
theorem ch_add {n : Nat} {l : List (Int × Int)} (hv : Vld n l) {f t : Int} (h : chkE n l 1 f t = 0) {i : Nat} (h1 : ∀ q ∈ l.take i, ltP q (f, t)) (h2 : ∀ q ∈ l.drop i, ¬ ltP q (f, t)) : l.take i ++ (f, t) :: l.drop i = chL n l 1 f t := by
  have hk := chk_kind h
  have hb : hasB l f t = false := by rcases hk with ⟨⟨_, h⟩ | ⟨h, _⟩, _⟩ | ⟨⟨h, _⟩ | ⟨h, _⟩, _⟩ <;> first | exact h | omega
  have hr : 0 ≤ f ∧ f < n ∧ 0 ≤ t ∧ t < n := by rcases hk with ⟨_, h⟩ | ⟨⟨h, _⟩ | ⟨h, _⟩, _⟩ <;> first | exact h | omega
  have hnot := hasB_false.1 hb
  refine ch_ext (ins_sorted hv.2 h1 fun q hq => ?_) fun q => ?_
  · have := h2 q hq
    have hne : q ≠ (f, t) := fun e => hnot (e ▸ List.mem_of_mem_drop hq)
    obtain ⟨x, y⟩ := q
    unfold ltP at *
    simp only [ne_eq, Prod.mk.injEq, not_and] at hne
    dsimp only at *
    omega
  · have hm : q ∈ l.take i ++ (f, t) :: l.drop i ↔ q ∈ l ∨ q = (f, t) := by
      have e := List.take_append_drop i l
      constructor
      · intro hq
        rcases List.mem_append.1 hq with hq | hq
        · exact .inl (List.mem_of_mem_take hq)
        · rcases List.mem_cons.1 hq with hq | hq
          · exact .inr hq
          · exact .inl (List.mem_of_mem_drop hq)
      · rintro (hq | rfl)
        · rw [← e] at hq
          rcases List.mem_append.1 hq with hq | hq
          · exact List.mem_append_left _ hq
          · exact List.mem_append_right _ (List.mem_cons_of_mem _ hq)
        · exact List.mem_append_right _ (List.mem_cons_self ..)
    rw [hm]
    show _ ↔ ∃ a b : Nat, a < n ∧ b < n ∧ _
    constructor
    · rintro (hq | rfl)
      · have := hv.1.2.2 q hq
        obtain ⟨x, y⟩ := q
        dsimp only at this
        refine ⟨x.toNat, y.toNat, by omega, by omega, ?_, by rw [Int.toNat_of_nonneg this.1, Int.toNat_of_nonneg this.2.2.1]⟩
        unfold chgB
        rw [Int.toNat_of_nonneg this.1, Int.toNat_of_nonneg this.2.2.1]
        simp [hasB_iff.2 hq]
      · refine ⟨f.toNat, t.toNat, by omega, by omega, ?_, by rw [Int.toNat_of_nonneg hr.1, Int.toNat_of_nonneg hr.2.2.1]⟩
        unfold chgB
        rw [Int.toNat_of_nonneg hr.1, Int.toNat_of_nonneg hr.2.2.1]
        simp
    · rintro ⟨a, b, ha, hb', hc, rfl⟩
      simp only [chgB, Bool.or_eq_true, Bool.and_eq_true, Bool.not_eq_true', beq_iff_eq] at hc
      rcases hc with ⟨hc, _⟩ | ⟨_, rfl, rfl⟩
      · exact .inl (hasB_iff.1 hc)
      · exact .inr rfl
theorem ch_rem {n : Nat} {l : List (Int × Int)} (hv : Vld n l) {f t : Int} : (l.filter fun q => !(q.1 == f && q.2 == t)) = chL n l 2 f t := by
  refine ch_ext (hv.2.filter _) fun q => ?_
  rw [List.mem_filter]
  show _ ↔ ∃ a b : Nat, a < n ∧ b < n ∧ _
  constructor
  · rintro ⟨hq, hc⟩
    have := hv.1.2.2 q hq
    obtain ⟨x, y⟩ := q
    dsimp only at this hc
    refine ⟨x.toNat, y.toNat, by omega, by omega, ?_, by rw [Int.toNat_of_nonneg this.1, Int.toNat_of_nonneg this.2.2.1]⟩
    unfold chgB
    rw [Int.toNat_of_nonneg this.1, Int.toNat_of_nonneg this.2.2.1]
    have e1 : (f == x) = (x == f) := by rw [Bool.eq_iff_iff]; simp; omega
    have e2 : (t == y) = (y == t) := by rw [Bool.eq_iff_iff]; simp; omega
    simp only [hasB_iff.2 hq, e1, e2]
    simp
    simpa using hc
  · rintro ⟨a, b, ha, hb', hc, rfl⟩
    have e1 : (f == (a : Int)) = ((a : Int) == f) := by rw [Bool.eq_iff_iff]; simp; omega
    have e2 : (t == (b : Int)) = ((b : Int) == t) := by rw [Bool.eq_iff_iff]; simp; omega
    simp only [chgB, e1, e2] at hc
    simp only [Bool.or_eq_true, Bool.and_eq_true] at hc
    rcases hc with ⟨hc, h2⟩ | ⟨h2, _⟩
    · refine ⟨hasB_iff.1 hc, ?_⟩
      simpa using h2
    · simp at h2
theorem ch_last {n : Nat} {l : List (Int × Int)} (hv : Vld n l) (_hn : n ≠ 0) : (l.filter fun q => !(max q.1 q.2 == (n : Int) - 1)) = chL n l 4 0 0 := by
  refine ch_ext (hv.2.filter _) fun q => ?_
  rw [List.mem_filter]
  show _ ↔ ∃ a b : Nat, a < n - 1 ∧ b < n - 1 ∧ _
  constructor
  · rintro ⟨hq, hc⟩
    have := hv.1.2.2 q hq
    obtain ⟨x, y⟩ := q
    dsimp only at this hc
    simp only [Bool.not_eq_true', beq_eq_false_iff_ne, ne_eq] at hc
    refine ⟨x.toNat, y.toNat, by omega, by omega, ?_, by rw [Int.toNat_of_nonneg this.1, Int.toNat_of_nonneg this.2.2.1]⟩
    unfold chgB
    rw [Int.toNat_of_nonneg this.1, Int.toNat_of_nonneg this.2.2.1]
    simp [hasB_iff.2 hq]
  · rintro ⟨a, b, ha, hb', hc, rfl⟩
    simp only [chgB] at hc
    simp at hc
    refine ⟨hasB_iff.1 hc, ?_⟩
    dsimp only
    simp only [Bool.not_eq_true', beq_eq_false_iff_ne, ne_eq]
    omega
theorem ch_node {n : Nat} {l : List (Int × Int)} (hv : Vld n l) : l = chL n l 3 0 0 := by
  refine ch_ext hv.2 fun q => ?_
  show _ ↔ ∃ a b : Nat, a < n + 1 ∧ b < n + 1 ∧ _
  constructor
  · intro hq
    have := hv.1.2.2 q hq
    obtain ⟨x, y⟩ := q
    dsimp only at this
    refine ⟨x.toNat, y.toNat, by omega, by omega, ?_, by rw [Int.toNat_of_nonneg this.1, Int.toNat_of_nonneg this.2.2.1]⟩
    unfold chgB
    rw [Int.toNat_of_nonneg this.1, Int.toNat_of_nonneg this.2.2.1]
    simp [hasB_iff.2 hq]
  · rintro ⟨a, b, ha, hb', hc, rfl⟩
    simp only [chgB] at hc
    simp at hc
    exact hasB_iff.1 hc
end Go.Proofs.YtkflanjlnbdkmaaGreatDoor
