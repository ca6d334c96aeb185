/- The grounded labelling in plain words: rounds, their invariants, their end. No program in sight. -/
import Derived.Test.YtiljbfeipfdmdaaDoorRef10c
import Derived.Test.YtiljbfeipfdmdaaDoorPlain13
namespace Go.Proofs.YtiljbfeipfdmdaaDoor
open Go.ChangeShapes Go.WideShapes Go.ChangeAt Go.RowKit

/-- a function on the nodes as a list -/
def lst (n : Nat) (f : Nat → Int) : List Int := (List.range n).map f
theorem lst_length (n : Nat) (f : Nat → Int) : (lst n f).length = n := by simp [lst]
theorem lst_getD {n : Nat} {f : Nat → Int} {k : Nat} (h : k < n) : (lst n f).getD k 0 = f k := by simp [lst, List.getD, h]
theorem lst_get {n : Nat} {f : Nat → Int} {k : Nat} (h : k < (lst n f).length) : (lst n f)[k] = f k := by simp [lst]
theorem lst_congr {n : Nat} {f g : Nat → Int} (h : ∀ i, i < n → f i = g i) : lst n f = lst n g := by
  unfold lst
  exact List.map_congr_left fun i hi => h i (List.mem_range.1 hi)
theorem lst_inj {n : Nat} {f g : Nat → Int} (h : lst n f = lst n g) : ∀ i, i < n → f i = g i := fun i hi => by
  have := congrArg (fun l => l.getD i 0) h
  simpa only [lst_getD hi] using this
theorem lst_succ (n : Nat) (f : Nat → Int) : lst (n + 1) f = lst n f ++ [f n] := by simp [lst, List.range_succ]
def upd (f : Nat → Int) (k : Nat) (x : Int) : Nat → Int := fun j => if j = k then x else f j
theorem upd_same (f : Nat → Int) (k : Nat) (x : Int) : upd f k x k = x := by simp [upd]
theorem upd_ne {f : Nat → Int} {k j : Nat} {x : Int} (h : j ≠ k) : upd f k x j = f j := by simp [upd, h]
theorem lst_set {n : Nat} {f : Nat → Int} {k : Nat} (x : Int) : (lst n f).set k x = lst n (upd f k x) := by
  apply List.ext_getElem
  · simp [lst]
  · intro i h1 h2
    simp only [lst, List.getElem_set, List.getElem_map, List.getElem_range, upd]
    by_cases h : k = i
    · rw [if_pos h, if_pos h.symm]
    · rw [if_neg h, if_neg (fun e => h e.symm)]

theorem mem_attackedL {l : List (Int × Int)} {x i : Int} : x ∈ attackedL l i ↔ (i, x) ∈ l := by
  unfold attackedL
  rw [List.mem_map]
  constructor
  · rintro ⟨p, hp, rfl⟩
    rw [List.mem_filter] at hp
    have : p.1 = i := by simpa using hp.2
    subst this; exact hp.1
  · intro h; exact ⟨(i, x), List.mem_filter.2 ⟨h, by simp⟩, rfl⟩
theorem attacker_nat {n : Nat} {l : List (Int × Int)} (hv : InR n l) {x : Int} {i : Nat} (h : x ∈ attackersL l i) : ∃ a : Nat, x = a ∧ a < n ∧ att l a i := by
  have hm := mem_attackersL.1 h
  have := hv.2.2 _ hm
  simp at this
  exact ⟨x.toNat, by omega, by omega, by unfold att; rw [show ((x.toNat : Nat) : Int) = x by omega]; exact hm⟩
theorem attacked_nat {n : Nat} {l : List (Int × Int)} (hv : InR n l) {x : Int} {i : Nat} (h : x ∈ attackedL l i) : ∃ a : Nat, x = a ∧ a < n ∧ att l i a := by
  have hm := mem_attackedL.1 h
  have := hv.2.2 _ hm
  simp at this
  exact ⟨x.toNat, by omega, by omega, by unfold att; rw [show ((x.toNat : Nat) : Int) = x by omega]; exact hm⟩
theorem all_attackers {n : Nat} {l : List (Int × Int)} (hv : InR n l) {p : Nat → Bool} {i : Nat} : (attackersL l i).all (fun a => p a.toNat) = true ↔ ∀ a, att l a i → p a = true := by
  rw [List.all_eq_true]
  constructor
  · intro h a ha
    have := h a (mem_attackersL.2 ha)
    simpa using this
  · intro h x hx
    obtain ⟨a, rfl, _, ha⟩ := attacker_nat hv hx
    simpa using h a ha
theorem any_attackers {n : Nat} {l : List (Int × Int)} (hv : InR n l) {p : Nat → Bool} {i : Nat} : (attackersL l i).any (fun a => p a.toNat) = true ↔ ∃ a, att l a i ∧ p a = true := by
  rw [List.any_eq_true]
  constructor
  · rintro ⟨x, hx, hp⟩
    obtain ⟨a, rfl, _, ha⟩ := attacker_nat hv hx
    exact ⟨a, ha, by simpa using hp⟩
  · rintro ⟨a, ha, hp⟩
    exact ⟨a, mem_attackersL.2 ha, by simpa using hp⟩

/-! ### the rounds -/
/-- node i becomes In in the next round -/
def frB (n : Nat) (l : List (Int × Int)) (L : Nat → Int) (i : Nat) : Bool := decide (i < n) && (L i == 3) && (attackersL l i).all fun a => L a.toNat == 2
/-- node i becomes Out in the next round -/
def gHitB (n : Nat) (l : List (Int × Int)) (L : Nat → Int) (i : Nat) : Bool := (L i == 3) && !frB n l L i && (attackersL l i).any fun a => frB n l L a.toNat
def nxL (n : Nat) (l : List (Int × Int)) (L : Nat → Int) : Nat → Int := fun i => if frB n l L i then 1 else if gHitB n l L i then 2 else L i
def nxR (n : Nat) (l : List (Int × Int)) (L : Nat → Int) (r : Int) (R : Nat → Int) : Nat → Int := fun i => if frB n l L i then r else if gHitB n l L i then r else R i
def stL (n : Nat) (l : List (Int × Int)) : Nat → Nat → Int
  | 0 => fun _ => 3
  | r + 1 => nxL n l (stL n l r)
def stR (n : Nat) (l : List (Int × Int)) : Nat → Nat → Int
  | 0 => fun _ => 0
  | r + 1 => nxR n l (stL n l r) (r + 1) (stR n l r)
/-- the grounded labelling and its ranks -/
def grL (n : Nat) (l : List (Int × Int)) : Nat → Int := stL n l n
def grR (n : Nat) (l : List (Int × Int)) : Nat → Int := stR n l n

theorem frB_iff {n : Nat} {l : List (Int × Int)} (hv : InR n l) {L : Nat → Int} {i : Nat} : frB n l L i = true ↔ i < n ∧ L i = 3 ∧ ∀ a, att l a i → L a = 2 := by
  unfold frB
  rw [Bool.and_eq_true, Bool.and_eq_true, decide_eq_true_iff, beq_iff_eq, all_attackers hv (p := fun a => L a == 2)]
  simp only [beq_iff_eq]
  constructor
  · rintro ⟨⟨h1, h2⟩, h3⟩; exact ⟨h1, h2, h3⟩
  · rintro ⟨h1, h2, h3⟩; exact ⟨⟨h1, h2⟩, h3⟩
theorem gHitB_iff {n : Nat} {l : List (Int × Int)} (hv : InR n l) {L : Nat → Int} {i : Nat} : gHitB n l L i = true ↔ L i = 3 ∧ frB n l L i = false ∧ ∃ a, att l a i ∧ frB n l L a = true := by
  unfold gHitB
  rw [Bool.and_eq_true, Bool.and_eq_true, beq_iff_eq, any_attackers hv]
  simp only [Bool.not_eq_true']
  constructor
  · rintro ⟨⟨h1, h2⟩, h3⟩; exact ⟨h1, h2, h3⟩
  · rintro ⟨h1, h2, h3⟩; exact ⟨⟨h1, h2⟩, h3⟩
/-- an attacked node is not free while its attacker is undecided -/
theorem not_free_of_free {n : Nat} {l : List (Int × Int)} (hv : InR n l) {L : Nat → Int} {a i : Nat} (ha : frB n l L a = true) (h : att l a i) : frB n l L i = false := by
  cases hb : frB n l L i
  · rfl
  · have h1 := ((frB_iff hv).1 hb).2.2 a h
    have h2 := ((frB_iff hv).1 ha).2.1
    omega

/-- what holds of the labels behind each round -/
structure GrI (n : Nat) (l : List (Int × Int)) (L : Nat → Int) : Prop where
  rng : ∀ i, L i = 1 ∨ L i = 2 ∨ L i = 3
  isIn : ∀ i, L i = 1 → i < n ∧ ∀ a, att l a i → L a = 2
  isOut : ∀ i, L i = 2 → ∃ a, att l a i ∧ L a = 1
  outs : ∀ a i, L a = 1 → att l a i → L i = 2
theorem GrI.next {n : Nat} {l : List (Int × Int)} (hv : InR n l) {L : Nat → Int} (h : GrI n l L) : GrI n l (nxL n l L) := by
  have keep1 : ∀ i, L i = 1 → nxL n l L i = 1 := fun i hi => by
    have hf : frB n l L i = false := by cases hb : frB n l L i; rfl; have := ((frB_iff hv).1 hb).2.1; omega
    have hh : gHitB n l L i = false := by cases hb : gHitB n l L i; rfl; have := ((gHitB_iff hv).1 hb).1; omega
    simp [nxL, hf, hh, hi]
  have keep2 : ∀ i, L i = 2 → nxL n l L i = 2 := fun i hi => by
    have hf : frB n l L i = false := by cases hb : frB n l L i; rfl; have := ((frB_iff hv).1 hb).2.1; omega
    have hh : gHitB n l L i = false := by cases hb : gHitB n l L i; rfl; have := ((gHitB_iff hv).1 hb).1; omega
    simp [nxL, hf, hh, hi]
  have from1 : ∀ i, nxL n l L i = 1 → frB n l L i = true ∨ L i = 1 := fun i hi => by
    unfold nxL at hi
    split at hi
    · left; assumption
    · split at hi
      · omega
      · right; exact hi
  have newIn : ∀ i, frB n l L i = true → nxL n l L i = 1 := fun i hi => by simp [nxL, hi]
  refine ⟨fun i => ?_, fun i hi => ?_, fun i hi => ?_, fun a i ha hai => ?_⟩
  · unfold nxL
    split
    · left; rfl
    · split
      · right; left; rfl
      · exact h.rng i
  · rcases from1 i hi with hf | h1
    · obtain ⟨h1, h2, h3⟩ := (frB_iff hv).1 hf
      exact ⟨h1, fun a ha => keep2 a (h3 a ha)⟩
    · exact ⟨(h.isIn i h1).1, fun a ha => keep2 a ((h.isIn i h1).2 a ha)⟩
  · unfold nxL at hi
    split at hi
    · omega
    · split at hi
      · rename_i hh
        obtain ⟨_, _, a, ha, hfa⟩ := (gHitB_iff hv).1 hh
        exact ⟨a, ha, newIn a hfa⟩
      · obtain ⟨a, ha, h1⟩ := h.isOut i hi
        exact ⟨a, ha, keep1 a h1⟩
  · rcases from1 a ha with hf | h1
    · rcases h.rng i with hi | hi | hi
      · have h2 := (h.isIn i hi).2 a hai
        have h3 := ((frB_iff hv).1 hf).2.1
        omega
      · exact keep2 i hi
      · have hn := not_free_of_free hv hf hai
        have hh : gHitB n l L i = true := (gHitB_iff hv).2 ⟨hi, hn, a, hai, hf⟩
        simp [nxL, hn, hh]
    · exact keep2 i (h.outs a i h1 hai)
theorem stL_inv {n : Nat} {l : List (Int × Int)} (hv : InR n l) : ∀ r, GrI n l (stL n l r)
  | 0 => ⟨fun _ => .inr (.inr rfl), fun i hi => by simp [stL] at hi, fun i hi => by simp [stL] at hi, fun a i hi => by simp [stL] at hi⟩
  | r + 1 => (stL_inv hv r).next hv
theorem stR_le {n : Nat} {l : List (Int × Int)} : ∀ (r : Nat) (i : Nat), 0 ≤ stR n l r i ∧ stR n l r i ≤ r
  | 0, _ => by simp [stR]
  | r + 1, i => by
    have := stR_le (n := n) (l := l) r i
    simp only [stR, nxR]
    split
    · omega
    · split <;> omega

/-- nobody becomes In any more -/
def restB (n : Nat) (l : List (Int × Int)) (L : Nat → Int) : Prop := ∀ i, i < n → frB n l L i = false
theorem rest_frB {n : Nat} {l : List (Int × Int)} (hv : InR n l) {L : Nat → Int} (h : restB n l L) (i : Nat) : frB n l L i = false := by
  cases hb : frB n l L i
  · rfl
  · rw [h i ((frB_iff hv).1 hb).1] at hb; cases hb
theorem rest_next {n : Nat} {l : List (Int × Int)} (hv : InR n l) {L : Nat → Int} (h : restB n l L) : nxL n l L = L ∧ ∀ r R, nxR n l L r R = R := by
  have hh : ∀ i, gHitB n l L i = false := fun i => by
    cases hb : gHitB n l L i
    · rfl
    · obtain ⟨_, _, a, _, ha⟩ := (gHitB_iff hv).1 hb
      rw [rest_frB hv h a] at ha; cases ha
  exact ⟨funext fun i => by simp [nxL, rest_frB hv h i, hh i], fun r R => funext fun i => by simp [nxR, rest_frB hv h i, hh i]⟩
theorem rest_stays {n : Nat} {l : List (Int × Int)} (hv : InR n l) {r : Nat} (h : restB n l (stL n l r)) : ∀ d, stL n l (r + d) = stL n l r ∧ stR n l (r + d) = stR n l r
  | 0 => ⟨rfl, rfl⟩
  | d + 1 => by
    obtain ⟨h1, h2⟩ := rest_stays hv h d
    obtain ⟨h3, h4⟩ := rest_next hv h
    have e : r + (d + 1) = (r + d) + 1 := by omega
    rw [e]
    simp only [stL, stR]
    rw [h1, h2, h3, h4]
    exact ⟨rfl, rfl⟩
/-- the undecided nodes -/
def undN (n : Nat) (L : Nat → Int) : Nat := ((List.range n).filter fun i => L i == 3).length
theorem undN_le (n : Nat) (L : Nat → Int) : undN n L ≤ n := by
  unfold undN
  have := List.length_filter_le (fun i => L i == 3) (List.range n)
  simpa using this
theorem filter_length_lt {α : Type} {p q : α → Bool} : ∀ {l : List α}, (∀ x ∈ l, q x = true → p x = true) → (∃ x ∈ l, p x = true ∧ q x = false) → (l.filter q).length < (l.filter p).length
  | [], _, h => by obtain ⟨x, hx, _⟩ := h; cases hx
  | y :: l, h1, h2 => by
    have hle : (l.filter q).length ≤ (l.filter p).length := by
      have h1' : ∀ x ∈ l, q x = true → p x = true := fun x hx => h1 x (List.mem_cons_of_mem _ hx)
      clear h1 h2
      induction l with
      | nil => simp
      | cons z l ih =>
        have := ih fun x hx => h1' x (List.mem_cons_of_mem _ hx)
        simp only [List.filter_cons]
        by_cases hq : q z = true
        · rw [if_pos hq, if_pos (h1' z (List.mem_cons_self ..) hq)]; simp; omega
        · rw [if_neg hq]; split <;> simp <;> omega
    simp only [List.filter_cons]
    by_cases hq : q y = true
    · rw [if_pos hq, if_pos (h1 y (List.mem_cons_self ..) hq)]
      have : (l.filter q).length < (l.filter p).length := by
        refine filter_length_lt (fun x hx => h1 x (List.mem_cons_of_mem _ hx)) ?_
        obtain ⟨x, hx, hp, hq'⟩ := h2
        rcases List.mem_cons.1 hx with rfl | hx
        · rw [hq] at hq'; cases hq'
        · exact ⟨x, hx, hp, hq'⟩
      simp; omega
    · rw [if_neg hq]
      by_cases hp : p y = true
      · rw [if_pos hp]; simp; omega
      · rw [if_neg hp]
        refine filter_length_lt (fun x hx => h1 x (List.mem_cons_of_mem _ hx)) ?_
        obtain ⟨x, hx, hp', hq'⟩ := h2
        rcases List.mem_cons.1 hx with rfl | hx
        · exact absurd hp' hp
        · exact ⟨x, hx, hp', hq'⟩
theorem und_next {n : Nat} {l : List (Int × Int)} (hv : InR n l) {L : Nat → Int} {i : Nat} (h : frB n l L i = true) : undN n (nxL n l L) < undN n L := by
  obtain ⟨h1, h2, _⟩ := (frB_iff hv).1 h
  refine filter_length_lt (fun x _ hx => ?_) ⟨i, List.mem_range.2 h1, by simpa using h2, by simp [nxL, h]⟩
  simp only [beq_iff_eq] at hx ⊢
  unfold nxL at hx
  split at hx
  · omega
  · split at hx
    · omega
    · exact hx
/-- unless it rested before, the rounds so far have each decided a node -/
theorem und_round {n : Nat} {l : List (Int × Int)} (hv : InR n l) : ∀ r, (∃ r0, r0 ≤ r ∧ restB n l (stL n l r0)) ∨ undN n (stL n l r) + r ≤ n
  | 0 => .inr (by have := undN_le n (stL n l 0); omega)
  | r + 1 => by
    rcases und_round hv r with ⟨r0, h0, h⟩ | h
    · exact .inl ⟨r0, by omega, h⟩
    · rcases Classical.em (∃ i, frB n l (stL n l r) i = true) with ⟨i, hi⟩ | hno
      · have := und_next hv hi
        have e : stL n l (r + 1) = nxL n l (stL n l r) := rfl
        rw [← e] at this
        exact .inr (by omega)
      · refine .inl ⟨r, by omega, fun i _ => ?_⟩
        cases hb : frB n l (stL n l r) i
        · rfl
        · exact absurd ⟨i, hb⟩ hno
theorem rest_at_n {n : Nat} {l : List (Int × Int)} (hv : InR n l) : ∃ r0, r0 ≤ n ∧ restB n l (stL n l r0) := by
  rcases und_round hv n with h | h
  · exact h
  · refine ⟨n, Nat.le_refl _, fun i hi => ?_⟩
    cases hb : frB n l (stL n l n) i
    · rfl
    · have := und_next hv hb
      omega
theorem rest_final {n : Nat} {l : List (Int × Int)} (hv : InR n l) {r : Nat} (h : restB n l (stL n l r)) : stL n l r = grL n l ∧ stR n l r = grR n l := by
  obtain ⟨r0, h0, hr⟩ := rest_at_n hv
  obtain ⟨d, hd⟩ := Nat.exists_eq_add_of_le h0
  have a := rest_stays hv hr d
  rw [← hd] at a
  have b := rest_stays hv h r0
  have c := rest_stays hv hr r
  rw [Nat.add_comm] at b
  exact ⟨by rw [← b.1, c.1, ← a.1]; rfl, by rw [← b.2, c.2, ← a.2]; rfl⟩
theorem gr_rest {n : Nat} {l : List (Int × Int)} (hv : InR n l) : restB n l (grL n l) := by
  obtain ⟨r0, h0, hr⟩ := rest_at_n hv
  obtain ⟨d, hd⟩ := Nat.exists_eq_add_of_le h0
  have a := rest_stays hv hr d
  rw [← hd] at a
  unfold grL
  rw [a.1]; exact hr
theorem gr_inv {n : Nat} {l : List (Int × Int)} (hv : InR n l) : GrI n l (grL n l) := stL_inv hv n
/-- a round that finds a free node is one of the first n -/
theorem round_le {n : Nat} {l : List (Int × Int)} (hv : InR n l) {r : Nat} (h : ∀ q, q < r → ¬ restB n l (stL n l q)) : r ≤ n := by
  rcases Nat.lt_or_ge n r with hlt | hge
  · obtain ⟨r0, h0, hr⟩ := rest_at_n hv
    exact absurd hr (h r0 (by omega))
  · exact hge
end Go.Proofs.YtiljbfeipfdmdaaDoor
