/- The part of a graph with the nodes that reach a node: its grounded labelling. Plain words, no program in sight. -/
import Derived.Test.YtkflanjlnbdkmaaGreatDoorInd
import Derived.Test.YtkflanjlnbdkmaaGreatDoorRch
import Derived.Test.YtkflanjlnbdkmaaGreatDoorGnd
namespace Go.Proofs.YtkflanjlnbdkmaaGreatDoor
open Go.ChangeShapes Go.WideShapes Go.ChangeAt Go.RowKit

theorem idxP_get {p : Int → Bool} : ∀ (l : List Int) (k j : Nat) (h : j < l.length), (∀ i (hi : i < j), p l[i] = false) → p l[j] = true → idxP p k l = ((k + j : Nat) : Int)
  | [], _, _, h, _, _ => absurd h (by simp)
  | x :: l, k, 0, _, _, hp => by rw [idxP, if_pos (show p x = true from hp)]; rfl
  | x :: l, k, j + 1, h, hn, hp => by
    have h0 := hn 0 (by omega)
    rw [idxP, if_neg (by rw [show p x = false from h0]; simp)]
    rw [idxP_get l (k + 1) j (by simpa using h) (fun i hi => hn (i + 1) (by omega)) hp]
    congr 1; omega
theorem ix_mem {nl : List Int} {v : Int} : 0 ≤ ixL nl v ↔ v ∈ nl := by
  have h := idxP_any (fun y => v == y) nl 0
  rw [← decide_eq_true_iff (p := 0 ≤ ixL nl v)]
  unfold ixL
  rw [h, List.any_eq_true]
  constructor
  · rintro ⟨y, hy, e⟩
    rw [beq_iff_eq] at e; subst e; exact hy
  · intro h; exact ⟨v, h, by simp⟩
theorem ix_at {nl : List Int} (hs : nl.Pairwise (· < ·)) {k : Nat} (h : k < nl.length) : ixL nl nl[k] = k := by
  unfold ixL
  rw [idxP_get nl 0 k h (fun i hi => ?_) (by simp)]
  · simp
  · have := List.pairwise_iff_getElem.1 hs i k (by omega) h hi
    rw [beq_eq_false_iff_ne]; omega
theorem ix_get {nl : List Int} (hs : nl.Pairwise (· < ·)) {v : Int} (h : v ∈ nl) : ∃ (k : Nat) (hk : k < nl.length), v = nl[k] ∧ ixL nl v = k := by
  obtain ⟨k, hk, e⟩ := List.mem_iff_getElem.1 h
  exact ⟨k, hk, e.symm, by rw [← e]; exact ix_at hs hk⟩
theorem indF_some {nl : List Int} {p q : Int × Int} : indF nl p = some q ↔ p.1 ∈ nl ∧ p.2 ∈ nl ∧ q = (ixL nl p.1, ixL nl p.2) := by
  unfold indF
  constructor
  · intro h
    split at h
    · rename_i hc
      injection h with h
      exact ⟨ix_mem.1 hc.1, ix_mem.1 hc.2, h.symm⟩
    · cases h
  · rintro ⟨h1, h2, rfl⟩
    rw [if_pos ⟨ix_mem.2 h1, ix_mem.2 h2⟩]
theorem att_ind {nl : List Int} (hs : nl.Pairwise (· < ·)) {l : List (Int × Int)} {a b : Nat} : att (indP nl l) a b ↔ ∃ (ha : a < nl.length) (hb : b < nl.length), (nl[a], nl[b]) ∈ l := by
  unfold att indP
  rw [List.mem_filterMap]
  constructor
  · rintro ⟨p, hp, hf⟩
    obtain ⟨h1, h2, e⟩ := indF_some.1 hf
    obtain ⟨k1, hk1, e1, f1⟩ := ix_get hs h1
    obtain ⟨k2, hk2, e2, f2⟩ := ix_get hs h2
    rw [f1, f2] at e
    injection e with e3 e4
    have q1 : a = k1 := by omega
    have q2 : b = k2 := by omega
    subst q1 q2
    exact ⟨hk1, hk2, by rw [← e1, ← e2]; exact hp⟩
  · rintro ⟨ha, hb, h⟩
    exact ⟨_, h, indF_some.2 ⟨List.getElem_mem ha, List.getElem_mem hb, by rw [ix_at hs ha, ix_at hs hb]⟩⟩
theorem ix_mono {nl : List Int} (hs : nl.Pairwise (· < ·)) {u v : Int} (hu : u ∈ nl) (hv : v ∈ nl) (h : u < v) : ixL nl u < ixL nl v := by
  obtain ⟨k1, hk1, e1, f1⟩ := ix_get hs hu
  obtain ⟨k2, hk2, e2, f2⟩ := ix_get hs hv
  rw [f1, f2]
  rcases Nat.lt_trichotomy k1 k2 with q | q | q
  · omega
  · subst q; omega
  · have := List.pairwise_iff_getElem.1 hs k2 k1 hk2 hk1 q; omega
theorem vld_ind {n : Nat} {l : List (Int × Int)} (hv : Vld n l) {nl : List Int} (hs : nl.Pairwise (· < ·)) (hl : nl.length ≤ 40) : Vld nl.length (indP nl l) := by
  refine ⟨⟨hl, Nat.le_trans (indP_len nl l) hv.1.2.1, fun p hp => ?_⟩, ?_⟩
  · unfold indP at hp
    obtain ⟨q, _, hf⟩ := List.mem_filterMap.1 hp
    obtain ⟨h1, h2, rfl⟩ := indF_some.1 hf
    obtain ⟨k1, hk1, _, f1⟩ := ix_get hs h1
    obtain ⟨k2, hk2, _, f2⟩ := ix_get hs h2
    rw [f1, f2]; simp; omega
  · unfold indP
    rw [List.pairwise_filterMap]
    refine hv.2.imp ?_
    rintro p q hpq b hb b' hb'
    obtain ⟨h1, h2, rfl⟩ := indF_some.1 hb
    obtain ⟨h3, h4, rfl⟩ := indF_some.1 hb'
    unfold ltP at *
    rcases hpq with h | ⟨e, h⟩
    · exact .inl (ix_mono hs h1 h3 h)
    · exact .inr ⟨by simp [e], ix_mono hs h2 h4 h⟩

/-- the labels of a part that holds the attackers of its nodes -/
theorem part_st {n : Nat} {l : List (Int × Int)} (hv : Vld n l) {nl : List Int} (hs : nl.Pairwise (· < ·)) (hl : nl.length ≤ 40) (hr : ∀ x ∈ nl, ∃ j : Nat, x = j ∧ j < n) (hc : ∀ a b : Nat, att l a b → (b : Int) ∈ nl → (a : Int) ∈ nl) :
    ∀ (r k : Nat) (hk : k < nl.length), stL nl.length (indP nl l) r k = stL n l r nl[k].toNat := by
  have hw := vld_ind hv hs hl
  have hnat : ∀ (k : Nat) (hk : k < nl.length), ((nl[k].toNat : Nat) : Int) = nl[k] ∧ nl[k].toNat < n := fun k hk => by
    obtain ⟨j, e, hj⟩ := hr _ (List.getElem_mem hk)
    omega
  have hto : ∀ (a k : Nat) (_ : k < nl.length), att (indP nl l) a k → ∃ ha : a < nl.length, att l nl[a].toNat nl[k].toNat := fun a k hk h => by
    obtain ⟨ha, hk', h⟩ := (att_ind hs).1 h
    exact ⟨ha, by unfold att; rw [(hnat a ha).1, (hnat k hk).1]; exact h⟩
  have hfrom : ∀ (b k : Nat) (_ : k < nl.length), att l b nl[k].toNat → ∃ (a : Nat) (ha : a < nl.length), nl[a].toNat = b ∧ att (indP nl l) a k := fun b k hk h => by
    have hb := hc b nl[k].toNat h (by rw [(hnat k hk).1]; exact List.getElem_mem hk)
    obtain ⟨a, ha, e⟩ := List.mem_iff_getElem.1 hb
    refine ⟨a, ha, by omega, (att_ind hs).2 ⟨ha, hk, ?_⟩⟩
    unfold att at h
    rw [(hnat k hk).1] at h
    rw [e]; exact h
  intro r
  induction r with
  | zero => intro k hk; rfl
  | succ r ih =>
    have hfr : ∀ (k : Nat) (hk : k < nl.length), frB nl.length (indP nl l) (stL nl.length (indP nl l) r) k = frB n l (stL n l r) nl[k].toNat := fun k hk => by
      apply Bool.eq_iff_iff.2
      rw [frB_iff hw.1, frB_iff hv.1, ih k hk]
      constructor
      · rintro ⟨_, h2, h3⟩
        refine ⟨(hnat k hk).2, h2, fun b hb => ?_⟩
        obtain ⟨a, ha, e, hak⟩ := hfrom b k hk hb
        have := h3 a hak
        rw [ih a ha, e] at this
        exact this
      · rintro ⟨_, h2, h3⟩
        refine ⟨hk, h2, fun a ha => ?_⟩
        obtain ⟨ha', hat⟩ := hto a k hk ha
        rw [ih a ha']
        exact h3 _ hat
    have hgh : ∀ (k : Nat) (hk : k < nl.length), gHitB nl.length (indP nl l) (stL nl.length (indP nl l) r) k = gHitB n l (stL n l r) nl[k].toNat := fun k hk => by
      apply Bool.eq_iff_iff.2
      rw [gHitB_iff hw.1, gHitB_iff hv.1, ih k hk, hfr k hk]
      constructor
      · rintro ⟨h1, h2, a, ha, hf⟩
        obtain ⟨ha', hat⟩ := hto a k hk ha
        exact ⟨h1, h2, _, hat, by rw [← hfr a ha']; exact hf⟩
      · rintro ⟨h1, h2, b, hb, hf⟩
        obtain ⟨a, ha, e, hak⟩ := hfrom b k hk hb
        exact ⟨h1, h2, a, hak, by rw [hfr a ha, e]; exact hf⟩
    intro k hk
    simp only [stL, nxL]
    rw [hfr k hk, hgh k hk, ih k hk]
theorem part_gr {n : Nat} {l : List (Int × Int)} (hv : Vld n l) {nl : List Int} (hs : nl.Pairwise (· < ·)) (hl : nl.length ≤ n) (hr : ∀ x ∈ nl, ∃ j : Nat, x = j ∧ j < n) (hc : ∀ a b : Nat, att l a b → (b : Int) ∈ nl → (a : Int) ∈ nl) {k : Nat} (hk : k < nl.length) :
    grL nl.length (indP nl l) k = grL n l nl[k].toNat := by
  have hn := hv.1.1
  have hw := vld_ind hv hs (by omega)
  have h1 := (rest_stays hw.1 (gr_rest hw.1) (n - nl.length)).1
  rw [show nl.length + (n - nl.length) = n by omega] at h1
  have h2 := part_st hv hs (by omega) hr hc n k hk
  unfold grL
  rw [← h2, h1]

/-- the nodes that reach node i -/
theorem back_list {n : Nat} {l : List (Int × Int)} (hv : Vld n l) {i : Nat} (hi : i < n) : ∃ nl : List Int, reachL n (revL l) i = nl ∧ (nodesB n fun q => inB nl q) = nl ∧ nl.Pairwise (· < ·) ∧ nl.length ≤ n ∧ (∀ x ∈ nl, ∃ j : Nat, x = j ∧ j < n) ∧ ∀ a b : Nat, att l a b → (b : Int) ∈ nl → (a : Int) ∈ nl := by
  have hv' := revL_vld hv
  have hm : ∀ j : Nat, ((j : Int) ∈ nodesB n (reachM n (revL l) i).testBit) ↔ j < n ∧ has (reachM n (revL l) i) j := fun j => by
    rw [mem_nodesB]
    constructor
    · rintro ⟨q, hq, hb, e⟩
      have : j = q := by omega
      subst this; exact ⟨hq, hb⟩
    · rintro ⟨hq, hb⟩; exact ⟨j, hq, hb, rfl⟩
  refine ⟨nodesB n (reachM n (revL l) i).testBit, reachL_in hi, nodesB_congr fun q hq => ?_, nodesB_sorted _ _, nodesB_length _ _, fun x hx => ?_, fun a b hab hb => ?_⟩
  · apply Bool.eq_iff_iff.2
    rw [inB_iff, hm]
    exact ⟨fun h => h.2, fun h => ⟨hq, h⟩⟩
  · obtain ⟨j, hj, _, rfl⟩ := mem_nodesB.1 hx
    exact ⟨j, rfl, hj⟩
  · exact (hm a).2 ⟨(att_lt hv.1 hab).1, reach_step hv'.1 hi ((hm b).1 hb).2 (att_revL.2 hab)⟩
theorem nGn_vld {n : Nat} {l : List (Int × Int)} (h : Vld n l) : nGn n l = n := by unfold nGn; rw [h.valE]; rfl
theorem nGl_vld {n : Nat} {l : List (Int × Int)} (h : Vld n l) : nGl n l = l := by unfold nGl; rw [h.valE]; rfl
end Go.Proofs.YtkflanjlnbdkmaaGreatDoor
