import Derived.Test.YtncimnfhfomddaaDoorMapP
/- enforce.Toggle in plain words. -/
namespace Go.Proofs.YtncimnfhfomddaaDoor
open Go.ChangeShapes Go.WideShapes Go.ChangeAt Go.RowKit

/-- a list of pairs in order -/
def srtP (l : List (Int × Int)) : List (Int × Int) := l.mergeSort fun x y => !(ltOf cmpP) y x
theorem srtP_perm (l : List (Int × Int)) : (srtP l).Perm l := List.mergeSort_perm _ _
theorem mem_srtP {l : List (Int × Int)} {p : Int × Int} : p ∈ srtP l ↔ p ∈ l := (srtP_perm l).mem_iff
theorem srtP_len (l : List (Int × Int)) : (srtP l).length = l.length := (srtP_perm l).length_eq
theorem srtP_sorted {l : List (Int × Int)} (h : l.Nodup) : (srtP l).Pairwise ltP := by
  have h1 : (srtP l).Pairwise fun x y => (!(ltOf cmpP) y x) = true := List.pairwise_mergeSort
    (fun x y z h1 h2 => by simp only [Bool.not_eq_true', ltOf_cmpP, decide_eq_false_iff_not] at *; unfold ltP at *; omega)
    (fun x y => by simp only [Bool.or_eq_true, Bool.not_eq_true', ltOf_cmpP, decide_eq_false_iff_not]; unfold ltP; omega) _
  have h2 : (srtP l).Nodup := (srtP_perm l).nodup_iff.2 h
  refine (h1.and h2).imp fun {x y} hxy => ?_
  obtain ⟨h3, h4⟩ := hxy
  simp only [Bool.not_eq_true', ltOf_cmpP, decide_eq_false_iff_not] at h3
  rcases Classical.em (ltP x y) with h5 | h5
  · exact h5
  · exact absurd (Prod.ext (by unfold ltP at *; omega) (by unfold ltP at *; omega)) h4
theorem srtP_ext {a b : List (Int × Int)} (ha : a.Nodup) (hb : b.Nodup) (h : ∀ x, x ∈ a ↔ x ∈ b) : srtP a = srtP b :=
  sortedP_ext _ _ (srtP_sorted ha) (srtP_sorted hb) fun x => by rw [mem_srtP, mem_srtP, h]
/-- G with the pairs of L toggled -/
def tgL (G L : List (Int × Int)) : List (Int × Int) := srtP (G.filter (fun p => !decide (p ∈ L)) ++ L.filter (fun p => !decide (p ∈ G)))
theorem mem_tgL {G L : List (Int × Int)} {p : Int × Int} : p ∈ tgL G L ↔ (decide (p ∈ G) != decide (p ∈ L)) = true := by
  unfold tgL
  rw [mem_srtP, List.mem_append, List.mem_filter, List.mem_filter]
  by_cases h1 : p ∈ G <;> by_cases h2 : p ∈ L <;> simp [h1, h2]
theorem tgL_pre {G L : List (Int × Int)} (hG : G.Nodup) (hL : L.Nodup) : (G.filter (fun p => !decide (p ∈ L)) ++ L.filter (fun p => !decide (p ∈ G))).Nodup := by
  rw [List.nodup_append]
  refine ⟨hG.filter _, hL.filter _, fun a ha b hb e => ?_⟩
  subst e
  simp only [List.mem_filter, Bool.not_eq_true', decide_eq_false_iff_not] at ha hb
  exact ha.2 hb.1
theorem tgL_sorted {G L : List (Int × Int)} (hG : G.Nodup) (hL : L.Nodup) : (tgL G L).Pairwise ltP := srtP_sorted (tgL_pre hG hL)
theorem tgL_len (G L : List (Int × Int)) : (tgL G L).length ≤ G.length + L.length := by
  unfold tgL
  rw [srtP_len, List.length_append]
  have := List.length_filter_le (fun p => !decide (p ∈ L)) G
  have := List.length_filter_le (fun p => !decide (p ∈ G)) L
  omega
/-- the list that the loop over the map leaves, in order -/
theorem srtP_tgL {G L out : List (Int × Int)} (hG : G.Nodup) (hL : L.Nodup) (ho : out.Nodup) (h : ∀ p, p ∈ out ↔ (decide (p ∈ G) != decide (p ∈ L)) = true) : srtP out = tgL G L :=
  srtP_ext ho (tgL_pre hG hL) fun p => by rw [h, ← mem_tgL]; unfold tgL; rw [mem_srtP]
/-- the error of Toggle at a graph of N nodes -/
def tgE (N : Int) (L : List (Int × Int)) : Int := if ∀ p ∈ L, okP N p then if L.Nodup then 0 else 5 else 1
theorem tgE_one {N : Int} {L : List (Int × Int)} {k : Nat} (hk : k < L.length) (h : ¬ okP N L[k]) : tgE N L = 1 := by
  unfold tgE
  rw [if_neg (fun h' => h (h' _ (List.getElem_mem hk)))]
theorem nodup_take {L : List (Int × Int)} {k : Nat} (hk : k < L.length) (hd : (L.take k).Nodup) (h : L[k] ∉ L.take k) : (L.take (k + 1)).Nodup := by
  rw [List.take_succ_eq_append_getElem hk, List.nodup_append]
  exact ⟨hd, by simp, fun a ha b hb e => by rw [List.mem_singleton] at hb; subst hb; subst e; exact h ha⟩
theorem not_nodup {L : List (Int × Int)} {k : Nat} (hk : k < L.length) (h : L[k] ∈ L.take k) : ¬ L.Nodup := fun hd => by
  have := hd.sublist (List.take_sublist (k + 1) L)
  rw [List.take_succ_eq_append_getElem hk, List.nodup_append] at this
  exact this.2.2 _ h _ (List.mem_singleton.2 rfl) rfl
theorem tgE_five {N : Int} {L : List (Int × Int)} (ho : ∀ p ∈ L, okP N p) {k : Nat} (hk : k < L.length) (h : L[k] ∈ L.take k) : tgE N L = 5 := by
  unfold tgE
  rw [if_pos ho, if_neg (not_nodup hk h)]
theorem tgE_ok {N : Int} {L : List (Int × Int)} (ho : ∀ p ∈ L, okP N p) (hd : L.Nodup) : tgE N L = 0 := by unfold tgE; rw [if_pos ho, if_pos hd]
theorem tgE_inv {N : Int} {L : List (Int × Int)} (h : tgE N L = 0) : (∀ p ∈ L, okP N p) ∧ L.Nodup := by
  unfold tgE at h
  split at h
  · rename_i h1
    split at h
    · rename_i h2; exact ⟨h1, h2⟩
    · cases h
  · cases h
theorem okP_i64 {n : Nat} (hn : n ≤ 62) {p : Int × Int} (h : okP n p) : I64 p := by unfold okP at h; unfold I64; omega
/-- what Toggle returns: the error, the nodes, the pairs -/
def tgErr (N : Int) (G L : List (Int × Int)) : Int := if valE N G = 0 then tgE N L else valE N G
def tgN (N : Int) (G L : List (Int × Int)) : Int := if tgErr N G L = 0 then N else 0
def tgG (N : Int) (G L : List (Int × Int)) : List (Int × Int) := if tgErr N G L = 0 then tgL G L else []
theorem tgL_vld {n : Nat} {G L : List (Int × Int)} (hv : Vld n G) (h : tgE n L = 0) (hl : G.length + L.length ≤ 100000) : Vld n (tgL G L) := by
  obtain ⟨h1, h2⟩ := tgE_inv h
  refine ⟨⟨hv.1.1, Nat.le_trans (tgL_len G L) hl, fun p hp => ?_⟩, tgL_sorted (vld_nodup hv) h2⟩
  have hp := mem_tgL.1 hp
  by_cases hG : p ∈ G
  · exact hv.1.2.2 p hG
  · have hL : p ∈ L := by simpa [hG] using hp
    have := h1 p hL
    unfold okP at this
    omega
/-- Toggle's answer: a new list -/
def RetTg (N : Int) (G L : List (Int × Int)) (w : World) : Ending → World → Prop := fun e w' => ∃ A c, e = .returned (.tuple #[.agg #[.int .i64 (tgN N G L), .slice A (tgG N G L).length c], .int .i64 (tgErr N G L)]) ∧
  RP w' A (tgG N G L) ∧ (∀ b o, A = some ⟨b, o, none⟩ → w.heap.size ≤ b) ∧ Below w.heap.size w w'
end Go.Proofs.YtncimnfhfomddaaDoor
