/- Parts of parts. No program in sight. -/
import Derived.Test.YtkflanjlnbdkmaaDoorPlainLoc
namespace Go.Proofs.YtkflanjlnbdkmaaDoor
open Go.ChangeShapes Go.WideShapes Go.ChangeAt Go.RowKit

theorem asc_ext : ∀ {a b : List Int}, a.Pairwise (· < ·) → b.Pairwise (· < ·) → (∀ x, x ∈ a ↔ x ∈ b) → a = b
  | [], [], _, _, _ => rfl
  | [], y :: b, _, _, h => absurd ((h y).2 (List.mem_cons_self ..)) (by simp)
  | x :: a, [], _, _, h => absurd ((h x).1 (List.mem_cons_self ..)) (by simp)
  | x :: a, y :: b, ha, hb, h => by
    obtain ⟨ha1, ha2⟩ := List.pairwise_cons.1 ha
    obtain ⟨hb1, hb2⟩ := List.pairwise_cons.1 hb
    have hxy : x = y := by
      rcases List.mem_cons.1 ((h x).1 (List.mem_cons_self ..)) with e | e
      · exact e
      · rcases List.mem_cons.1 ((h y).2 (List.mem_cons_self ..)) with e2 | e2
        · exact e2.symm
        · have h1 := hb1 x e; have h2 := ha1 y e2; omega
    subst hxy
    rw [asc_ext ha2 hb2 fun z => ?_]
    constructor
    · intro hz
      rcases List.mem_cons.1 ((h z).1 (List.mem_cons_of_mem _ hz)) with e | e
      · have := ha1 z hz; omega
      · exact e
    · intro hz
      rcases List.mem_cons.1 ((h z).2 (List.mem_cons_of_mem _ hz)) with e | e
      · have := hb1 z hz; omega
      · exact e
theorem nodesB_asc (n : Nat) (f : Nat → Bool) : (nodesB n f).Pairwise (· < ·) := by
  unfold nodesB
  rw [List.pairwise_map]
  refine (List.Pairwise.filter _ List.pairwise_lt_range).imp fun {a b} h => ?_
  show (a : Int) < (b : Int)
  omega
theorem nodes_fix {n : Nat} {nl : List Int} (hs : nl.Pairwise (· < ·)) (hr : ∀ x ∈ nl, ∃ j : Nat, x = j ∧ j < n) : (nodesB n fun q => inB nl q) = nl := by
  refine asc_ext (nodesB_asc _ _) hs fun x => ?_
  rw [mem_nodesB]
  constructor
  · rintro ⟨i, _, h, rfl⟩
    exact (inB_iff _ _).1 h
  · intro h
    obtain ⟨j, rfl, hj⟩ := hr x h
    exact ⟨j, hj, (inB_iff _ _).2 h, rfl⟩
/-- the nodes of a part of a part -/
def dirL (some few : List Int) : List Int := few.map fun i => some.getD i.toNat 0
section
variable {some few : List Int} (hs : some.Pairwise (· < ·)) (hf : few.Pairwise (· < ·)) (hr : ∀ x ∈ few, ∃ j : Nat, x = j ∧ j < some.length)
include hs hf hr
theorem dir_asc : (dirL some few).Pairwise (· < ·) := by
  unfold dirL
  rw [List.pairwise_map]
  refine hf.imp_of_mem fun {a b} ha hb h => ?_
  obtain ⟨j, rfl, hj⟩ := hr a ha
  obtain ⟨k, rfl, hk⟩ := hr b hb
  have hjk : j < k := by omega
  have := List.pairwise_iff_getElem.1 hs j k hj hk hjk
  simpa [List.getD, hj, hk] using this
omit hf in
theorem mem_dir {x : Int} : x ∈ dirL some few ↔ x ∈ some ∧ ixL some x ∈ few := by
  unfold dirL
  rw [List.mem_map]
  constructor
  · rintro ⟨i, hi, rfl⟩
    obtain ⟨j, rfl, hj⟩ := hr i hi
    have e : some.getD (j : Int).toNat 0 = some[j] := by simp [List.getD, hj]
    rw [e, ix_at hs hj]
    exact ⟨List.getElem_mem hj, hi⟩
  · rintro ⟨h1, h2⟩
    obtain ⟨k, hk, rfl, h3⟩ := ix_get hs h1
    rw [h3] at h2
    exact ⟨(k : Int), h2, by simp [List.getD, hk]⟩
theorem ix_dir {x : Int} (h : x ∈ dirL some few) : ixL (dirL some few) x = ixL few (ixL some x) := by
  obtain ⟨h1, h2⟩ := (mem_dir hs hr).1 h
  obtain ⟨k, hk, e, h3⟩ := ix_get hs h1
  obtain ⟨q, hq, e2, h4⟩ := ix_get hf h2
  rw [h4]
  have hq' : q < (dirL some few).length := by unfold dirL; rw [List.length_map]; exact hq
  have e3 : (dirL some few)[q] = x := by
    have : (dirL some few)[q] = some.getD (few[q]).toNat 0 := by simp [dirL]
    rw [this, ← e2, h3, e]; simp [List.getD, hk]
  rw [← e3]
  exact ix_at (dir_asc hs hf hr) hq'
theorem ind_ind (l : List (Int × Int)) : indP few (indP some l) = indP (dirL some few) l := by
  unfold indP
  rw [List.filterMap_filterMap]
  congr 1
  funext p
  obtain ⟨a, b⟩ := p
  apply Option.ext
  intro q
  rw [Option.bind_eq_some_iff, indF_some]
  constructor
  · rintro ⟨r, h1, h2⟩
    obtain ⟨ha, hb, rfl⟩ := indF_some.1 h1
    obtain ⟨hc, hd, rfl⟩ := indF_some.1 h2
    have h3 := (mem_dir hs hr).2 ⟨ha, hc⟩
    have h4 := (mem_dir hs hr).2 ⟨hb, hd⟩
    exact ⟨h3, h4, by rw [ix_dir hs hf hr h3, ix_dir hs hf hr h4]⟩
  · rintro ⟨h3, h4, rfl⟩
    obtain ⟨ha, hc⟩ := (mem_dir hs hr).1 h3
    obtain ⟨hb, hd⟩ := (mem_dir hs hr).1 h4
    exact ⟨_, indF_some.2 ⟨ha, hb, rfl⟩, indF_some.2 ⟨hc, hd, by rw [ix_dir hs hf hr h3, ix_dir hs hf hr h4]⟩⟩
end
theorem dir_len (some few : List Int) : (dirL some few).length = few.length := by unfold dirL; rw [List.length_map]
theorem dir_rng {n : Nat} {some few : List Int} (h : ∀ x ∈ some, ∃ j : Nat, x = j ∧ j < n) (hr : ∀ x ∈ few, ∃ j : Nat, x = j ∧ j < some.length) : ∀ x ∈ dirL some few, ∃ j : Nat, x = j ∧ j < n := fun x hx => by
  obtain ⟨i, hi, rfl⟩ := List.mem_map.1 hx
  obtain ⟨j, rfl, hj⟩ := hr i hi
  have e : some.getD (j : Int).toNat 0 = some[j] := by simp [List.getD, hj]
  rw [e]; exact h _ (List.getElem_mem hj)
/-- all nodes -/
theorem every_at (n : Nat) {k : Nat} (hk : k < n) : ∃ h : k < (nodesB n fun _ => true).length, (nodesB n fun _ => true)[k] = k := by
  have e : (nodesB n fun _ => true) = (List.range n).map Int.ofNat := by unfold nodesB; rw [List.filter_eq_self.2 (fun _ _ => rfl)]
  have hl : (nodesB n fun _ => true).length = n := by rw [e]; simp
  refine ⟨by rw [hl]; exact hk, ?_⟩
  have : (nodesB n fun _ => true)[k]? = Option.some (k : Int) := by rw [e]; simp [hk]
  rw [List.getElem?_eq_getElem (by rw [hl]; exact hk)] at this
  injection this
theorem ind_every {n : Nat} {l : List (Int × Int)} (hv : InR n l) : indP (nodesB n fun _ => true) l = l := by
  have hix : ∀ a : Int, 0 ≤ a → a < n → ixL (nodesB n fun _ => true) a = a := fun a h0 h1 => by
    obtain ⟨k, rfl⟩ := Int.eq_ofNat_of_zero_le h0
    obtain ⟨hk, e⟩ := every_at n (k := k) (by omega)
    have := ix_at (nodesB_asc n fun _ => true) hk
    rw [e] at this; exact this
  have key : ∀ m : List (Int × Int), (∀ p ∈ m, indF (nodesB n fun _ => true) p = Option.some p) → m.filterMap (indF (nodesB n fun _ => true)) = m := by
    intro m
    induction m with
    | nil => intro _; rfl
    | cons p m ih =>
      intro h
      rw [List.filterMap_cons, h p (List.mem_cons_self ..), ih fun q hq => h q (List.mem_cons_of_mem _ hq)]
  refine key l fun p hp => ?_
  obtain ⟨h1, h2, h3, h4⟩ := hv.2.2 p hp
  unfold indF
  rw [hix p.1 h1 h2, hix p.2 h3 h4, if_pos ⟨h1, h3⟩]
theorem has_ind {some : List Int} (hs : some.Pairwise (· < ·)) {l : List (Int × Int)} {i k : Nat} (hi : i < some.length) (hk : k < some.length) : hasB (indP some l) i k = hasB l some[i] some[k] := by
  rw [Bool.eq_iff_iff, hasB_iff, hasB_iff]
  have := att_ind hs (l := l) (a := i) (b := k)
  unfold att at this
  rw [this]
  exact ⟨fun ⟨_, _, h⟩ => h, fun h => ⟨hi, hk, h⟩⟩
end Go.Proofs.YtkflanjlnbdkmaaDoor
