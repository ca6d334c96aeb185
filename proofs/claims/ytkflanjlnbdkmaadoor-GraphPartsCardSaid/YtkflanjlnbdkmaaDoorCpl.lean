/- The components: what the law says of them. No program in sight. -/
import Derived.Test.YtkflanjlnbdkmaaDoorCmp
namespace Go.Proofs.YtkflanjlnbdkmaaDoor
open Go.ChangeShapes Go.WideShapes Go.ChangeAt Go.RowKit

/-- the least node of its component -/
def repB (n : Nat) (l : List (Int × Int)) (i : Nat) : Bool := (List.range i).all fun j => !(rchB n l i j && rchB n l j i)
theorem repB_iff {n : Nat} {l : List (Int × Int)} (hv : InR n l) {i : Nat} (hi : i < n) : repB n l i = true ↔ ∀ j, j < i → ¬ (Rc (att l) i j ∧ Rc (att l) j i) := by
  unfold repB
  rw [List.all_eq_true]
  constructor
  · intro h j hj hr
    have := h j (List.mem_range.2 hj)
    rw [(rch_iff hv hi).2 hr.1, (rch_iff hv (by omega)).2 hr.2] at this
    cases this
  · intro h j hj
    have hj' := List.mem_range.1 hj
    have := h j hj'
    rw [Bool.not_eq_true', Bool.and_eq_false_iff]
    by_cases h1 : rchB n l i j = true
    · by_cases h2 : rchB n l j i = true
      · exact absurd ⟨(rch_iff hv hi).1 h1, (rch_iff hv (by omega)).1 h2⟩ this
      · exact .inr (by simpa using h2)
    · exact .inl (by simpa using h1)
def repL (n : Nat) (l : List (Int × Int)) : List Nat := (List.range n).filter (repB n l)
theorem scc_eq {n : Nat} {l : List (Int × Int)} (hv : InR n l) {i j x : Nat} (hi : i < n) (hj : j < n) (h1 : has (sccM n l i) x) (h2 : has (sccM n l j) x) : Rc (att l) i j ∧ Rc (att l) j i := by
  obtain ⟨a, b⟩ := (has_scc hv hi).1 h1
  obtain ⟨c, d⟩ := (has_scc hv hj).1 h2
  exact ⟨a.trans d, c.trans b⟩
theorem rep_ctz {n : Nat} {l : List (Int × Int)} (hv : InR n l) {i : Nat} (hi : i < n) (hr : repB n l i = true) : Lib.ctz 64 (sccM n l i) = i := by
  have hs := scc_self hv hi
  have hne : sccM n l i ≠ 0 := fun e => by rw [e] at hs; simp [has] at hs
  have hb := low_bit _ hne (p40 hv.1 (scc_lt i))
  have h1 := hb.2.1
  rcases Nat.lt_trichotomy (Lib.ctz 64 (sccM n l i)) i with h | h | h
  · exact absurd ((has_scc hv hi).1 h1) ((repB_iff hv hi).1 hr _ h)
  · exact h
  · have := hb.2.2 i h
    unfold has at hs
    rw [this] at hs
    cases hs
/-- the least node of the component of x -/
theorem rep_of {n : Nat} {l : List (Int × Int)} (hv : InR n l) {x : Nat} (hx : x < n) : ∃ r, r < n ∧ repB n l r = true ∧ has (sccM n l r) x := by
  have key : ∀ k, (∃ r, r ≤ k ∧ has (sccM n l x) r) → ∃ r, has (sccM n l x) r ∧ ∀ j, j < r → ¬ has (sccM n l x) j := by
    intro k
    induction k with
    | zero =>
      rintro ⟨r, hr, h⟩
      obtain rfl : r = 0 := by omega
      exact ⟨0, h, fun j hj => by omega⟩
    | succ k ih =>
      rintro ⟨r, hr, h⟩
      by_cases hk : ∃ r, r ≤ k ∧ has (sccM n l x) r
      · exact ih hk
      · exact ⟨r, h, fun j hj hh => hk ⟨j, by omega, hh⟩⟩
  obtain ⟨r, hr, hmin⟩ := key x ⟨x, Nat.le_refl _, scc_self hv hx⟩
  obtain ⟨h1, h2⟩ := (has_scc hv hx).1 hr
  have hrn : r < n := has_lt (scc_lt x) hr
  refine ⟨r, hrn, (repB_iff hv hrn).2 fun j hj ⟨a, b⟩ => hmin j hj ((has_scc hv hx).2 ⟨h1.trans a, b.trans h2⟩), (has_scc hv hrn).2 ⟨h2, h1⟩⟩
theorem comps_start {n : Nat} {l : List (Int × Int)} (hv : Vld n l) : CInv n l ((repL n l).map (sccM n l)) (2 ^ n - 1) := by
  have hfull : ∀ x, has (2 ^ n - 1) x ↔ x < n := fun x => by unfold has; rw [Nat.testBit_two_pow_sub_one]; simp
  have hm : ∀ r, r ∈ repL n l ↔ r < n ∧ repB n l r = true := fun r => by unfold repL; rw [List.mem_filter, List.mem_range]
  have hp : (repL n l).Pairwise (· < ·) := List.Pairwise.filter _ List.pairwise_lt_range
  refine ⟨by have := Nat.two_pow_pos n; omega, fun f hf => ?_, fun x => ?_, ?_, ?_, fun a b ha e => ?_⟩
  · obtain ⟨r, hr, rfl⟩ := List.mem_map.1 hf
    exact ⟨r, ((hm r).1 hr).1, rfl⟩
  · rw [hfull]
    constructor
    · intro hx
      obtain ⟨r, h1, h2, h3⟩ := rep_of hv.1 hx
      exact ⟨_, List.mem_map.2 ⟨r, (hm r).2 ⟨h1, h2⟩, rfl⟩, h3⟩
    · rintro ⟨f, hf, hx⟩
      obtain ⟨r, hr, rfl⟩ := List.mem_map.1 hf
      exact has_lt (scc_lt r) hx
  · rw [List.pairwise_map]
    refine hp.imp_of_mem fun {a b} ha hb hab => ?_
    rw [rep_ctz hv.1 ((hm a).1 ha).1 ((hm a).1 ha).2, rep_ctz hv.1 ((hm b).1 hb).1 ((hm b).1 hb).2]
    exact hab
  · rw [List.pairwise_map]
    refine hp.imp_of_mem fun {a b} ha hb hab x h1 h2 => ?_
    have := scc_eq hv.1 ((hm a).1 ha).1 ((hm b).1 hb).1 h1 h2
    exact (repB_iff hv.1 ((hm b).1 hb).1).1 ((hm b).1 hb).2 a hab ⟨this.2, this.1⟩
  · rw [hfull]; exact (att_lt hv.1 e).2
theorem flen_rep (n : Nat) (l : List (Int × Int)) : ((repL n l).map (sccM n l)).length ≤ n := by
  rw [List.length_map]
  have := List.length_filter_le (repB n l) (List.range n)
  rw [List.length_range] at this
  exact this

/-- the components in order: a rearrangement, and no attack goes back -/
theorem comps_order {n : Nat} {l : List (Int × Int)} (hv : Vld n l) : ∀ (f : Nat) (F : List Nat) (rest : Nat), F.length ≤ f → CInv n l F rest → (compsF n l f rest).Perm F ∧ (compsF n l f rest).Pairwise fun p q => ∀ a b, has q a → has p b → ¬ att l a b := by
  intro f
  induction f with
  | zero =>
    intro F rest hf _
    obtain rfl : F = [] := List.eq_nil_of_length_eq_zero (by omega)
    exact ⟨List.Perm.refl _, .nil⟩
  | succ f ih =>
    intro F rest hf h
    by_cases h0 : rest = 0
    · have hF : F = [] := by
        cases F with
        | nil => rfl
        | cons p F =>
          have hp := h.fne hv.1 (List.mem_cons_self ..)
          obtain ⟨r, hr, e⟩ := h.scc p (List.mem_cons_self ..)
          have := h.sub (List.mem_cons_self ..) (x := r) (by rw [e]; exact scc_self hv.1 hr)
          rw [h0] at this; simp [has] at this
      have hz : ∀ f, compsF n l f 0 = [] := fun f => by
        cases f with
        | zero => rfl
        | succ f =>
          have h : (List.range n).find? (freeI n l 0) = none := by rw [List.find?_eq_none]; intro x _; simp [freeI]
          unfold compsF; rw [h]
      rw [h0, hz, hF]
      exact ⟨List.Perm.refl _, .nil⟩
    · obtain ⟨k, hk, hok, -, hco, hnx⟩ := h.next hv h0 f
      have hlen : (F.eraseIdx k).length ≤ f := by rw [List.length_eraseIdx, if_pos hk]; omega
      obtain ⟨h1, h2⟩ := ih _ _ hlen hnx
      rw [hco]
      have hperm : (F[k] :: F.eraseIdx k).Perm F := by
        have e : F = F.take k ++ F[k] :: F.drop (k + 1) := by rw [← List.drop_eq_getElem_cons hk, List.take_append_drop]
        rw [List.eraseIdx_eq_take_drop_succ]
        exact (List.perm_middle.symm).trans (by rw [← e])
      refine ⟨(h1.cons _).trans hperm, List.pairwise_cons.2 ⟨fun q hq a b ha hb e => ?_, h2⟩⟩
      have hq' := h1.mem_iff.1 hq
      have hqF : q ∈ F := List.mem_of_mem_eraseIdx hq'
      have hra := hnx.sub hq' ha
      obtain ⟨hr1, hr2⟩ := (has_minusN (p40 hv.1.1 h.lt) (p40 hv.1.1 (h.flt (List.getElem_mem hk)))).1 hra
      exact hr2 ((okC_iff hv h.lt (h.flt (List.getElem_mem hk))).1 hok b a hb e hr1)

structure CSpec (n : Nat) (l : List (Int × Int)) (M : List Nat) : Prop where
  rng : ∀ f ∈ M, f < 2 ^ n
  len : M.length ≤ n
  cov : ∀ x, x < n → ∃ k, ∃ hk : k < M.length, has M[k] x
  uni : ∀ j k (hj : j < M.length) (hk : k < M.length) x, has M[j] x → has M[k] x → j = k
  both : ∀ j k (hj : j < M.length) (hk : k < M.length) x y, has M[j] x → has M[k] y → (j = k ↔ Rc (att l) x y ∧ Rc (att l) y x)
  fwd : ∀ j k (hj : j < M.length) (hk : k < M.length) x y, has M[j] x → has M[k] y → att l x y → j ≤ k
theorem comps_spec {n : Nat} {l : List (Int × Int)} (hv : Vld n l) : CSpec n l (compsF n l n (2 ^ n - 1)) := by
  have hst := comps_start hv
  obtain ⟨hp, ho⟩ := comps_order hv n _ _ (flen_rep n l) hst
  have hfull : ∀ x, has (2 ^ n - 1) x ↔ x < n := fun x => by unfold has; rw [Nat.testBit_two_pow_sub_one]; simp
  have hdis : (compsF n l n (2 ^ n - 1)).Pairwise (fun p q => ∀ x, has p x → ¬ has q x) :=
    hp.symm.pairwise hst.dis (fun {a b} h x h1 h2 => h x h2 h1)
  have hscc : ∀ f ∈ compsF n l n (2 ^ n - 1), ∃ r, r < n ∧ f = sccM n l r := fun f hf => hst.scc f (hp.mem_iff.1 hf)
  have huni : ∀ j k (hj : j < (compsF n l n (2 ^ n - 1)).length) (hk : k < (compsF n l n (2 ^ n - 1)).length) x, has (compsF n l n (2 ^ n - 1))[j] x → has (compsF n l n (2 ^ n - 1))[k] x → j = k := fun j k hj hk x h1 h2 => by
    rcases Nat.lt_trichotomy j k with h | h | h
    · exact absurd h2 (List.pairwise_iff_getElem.1 hdis j k hj hk h x h1)
    · exact h
    · exact absurd h1 (List.pairwise_iff_getElem.1 hdis k j hk hj h x h2)
  refine ⟨fun f hf => hst.flt (hp.mem_iff.1 hf), by rw [hp.length_eq]; exact flen_rep n l, fun x hx => ?_, huni, fun j k hj hk x y h1 h2 => ?_, fun j k hj hk x y h1 h2 e => ?_⟩
  · obtain ⟨f, hf, h⟩ := (hst.cov x).1 ((hfull x).2 hx)
    obtain ⟨k, hk, rfl⟩ := List.getElem_of_mem (hp.mem_iff.2 hf)
    exact ⟨k, hk, h⟩
  · obtain ⟨r, hr, e⟩ := hscc _ (List.getElem_mem hj)
    obtain ⟨q, hq, e'⟩ := hscc _ (List.getElem_mem hk)
    constructor
    · intro hjk
      subst hjk
      rw [e] at h1 h2
      obtain ⟨a, b⟩ := (has_scc hv.1 hr).1 h1
      obtain ⟨c, d⟩ := (has_scc hv.1 hr).1 h2
      exact ⟨b.trans c, d.trans a⟩
    · rintro ⟨a, b⟩
      refine huni j k hj hk y ?_ h2
      rw [e] at h1 ⊢
      obtain ⟨c, d⟩ := (has_scc hv.1 hr).1 h1
      exact (has_scc hv.1 hr).2 ⟨c.trans a, b.trans d⟩
  · rcases Nat.lt_or_ge k j with h | h
    · exact absurd e (List.pairwise_iff_getElem.1 ho k j hk hj h x y h1 h2)
    · exact h
end Go.Proofs.YtkflanjlnbdkmaaDoor
