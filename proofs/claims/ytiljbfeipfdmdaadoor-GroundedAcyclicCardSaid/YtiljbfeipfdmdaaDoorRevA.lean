/- The pairs of a graph turned round and sorted, in plain words; rows of pairs in the sort's words. -/
import Derived.Test.YtiljbfeipfdmdaaDoorGrC
import Derived.Shelf.SlSortCmp.NoneTotal
namespace Go.Proofs.YtiljbfeipfdmdaaDoor
open Go.ChangeShapes Go.WideShapes Go.ChangeAt Go.RowKit

def swapP (p : Int × Int) : Int × Int := (p.2, p.1)
/-- what Reverse lays down -/
def revL (l : List (Int × Int)) : List (Int × Int) := (l.map swapP).mergeSort fun x y => !(ltOf cmpP) y x
theorem ltOf_cmpP (x y : Int × Int) : ltOf cmpP x y = decide (ltP x y) := by
  unfold ltOf
  rw [Bool.eq_iff_iff, decide_eq_true_iff, decide_eq_true_iff, cmpP_neg]
theorem swoP : Go.Sort.SWO (ltOf cmpP) where
  irrefl x := by rw [ltOf_cmpP]; simp [ltP]
  trans x y z h1 h2 := by rw [ltOf_cmpP, decide_eq_true_iff] at *; exact ltP_trans h1 h2
  ntrans x y z h1 h2 := by rw [ltOf_cmpP, decide_eq_false_iff_not] at *; unfold ltP at *; omega
theorem totP (x y : Int × Int) (h1 : ltOf cmpP x y = false) (h2 : ltOf cmpP y x = false) : x = y := by
  rw [ltOf_cmpP, decide_eq_false_iff_not] at *
  unfold ltP at *
  exact Prod.ext (by omega) (by omega)
theorem revL_perm (l : List (Int × Int)) : (revL l).Perm (l.map swapP) := List.mergeSort_perm _ _
theorem mem_revL {l : List (Int × Int)} {a b : Int} : (a, b) ∈ revL l ↔ (b, a) ∈ l := by
  rw [(revL_perm l).mem_iff, List.mem_map]
  constructor
  · rintro ⟨p, hp, e⟩
    unfold swapP at e
    injection e with e1 e2
    subst e1 e2; exact hp
  · intro h; exact ⟨_, h, rfl⟩
theorem revL_length (l : List (Int × Int)) : (revL l).length = l.length := by rw [(revL_perm l).length_eq, List.length_map]
theorem revL_sorted {l : List (Int × Int)} (h : l.Nodup) : (revL l).Pairwise ltP := by
  have h1 : (revL l).Pairwise fun x y => (!(ltOf cmpP) y x) = true := List.pairwise_mergeSort
    (fun x y z h1 h2 => by simp only [Bool.not_eq_true', ltOf_cmpP, decide_eq_false_iff_not] at *; unfold ltP at *; omega)
    (fun x y => by simp only [Bool.or_eq_true, Bool.not_eq_true', ltOf_cmpP, decide_eq_false_iff_not]; unfold ltP; omega) _
  have h2 : (revL l).Nodup := by
    rw [(revL_perm l).nodup_iff]
    exact List.pairwise_map.2 (h.imp fun {a b} hab e => hab (by unfold swapP at e; injection e with e1 e2; exact Prod.ext e2 e1))
  refine (h1.and h2).imp fun {x y} hxy => ?_
  obtain ⟨h3, h4⟩ := hxy
  simp only [Bool.not_eq_true', ltOf_cmpP, decide_eq_false_iff_not] at h3
  rcases Classical.em (ltP x y) with h5 | h5
  · exact h5
  · exact absurd (Prod.ext (by unfold ltP at *; omega) (by unfold ltP at *; omega)) h4
theorem vld_nodup {n : Nat} {l : List (Int × Int)} (h : Vld n l) : l.Nodup := h.2.imp fun {a b} hab e => by subst e; exact ltP_irrefl _ hab
theorem revL_vld {n : Nat} {l : List (Int × Int)} (h : Vld n l) : Vld n (revL l) := by
  refine ⟨⟨h.1.1, by rw [revL_length]; exact h.1.2.1, fun p hp => ?_⟩, revL_sorted (vld_nodup h)⟩
  obtain ⟨a, b⟩ := p
  have := h.1.2.2 _ (mem_revL.1 hp)
  simp at this ⊢; omega
theorem att_revL {l : List (Int × Int)} {a b : Nat} : att (revL l) a b ↔ att l b a := mem_revL
theorem attacked_revL {n : Nat} {l : List (Int × Int)} (h : Vld n l) (i : Int) : attackedL (revL l) i = attackersL l i :=
  sorted_ext _ _ (attackedL_sorted (revL_vld h).2 i) (attackersL_sorted h.2 i) fun x => by rw [mem_attackedL, mem_attackersL, mem_revL]
theorem attackers_revL {n : Nat} {l : List (Int × Int)} (h : Vld n l) (i : Int) : attackersL (revL l) i = attackedL l i :=
  sorted_ext _ _ (attackersL_sorted (revL_vld h).2 i) (attackedL_sorted h.2 i) fun x => by rw [mem_attackersL, mem_attackedL, mem_revL]
theorem sortedP_ext : ∀ (a b : List (Int × Int)), a.Pairwise ltP → b.Pairwise ltP → (∀ x, x ∈ a ↔ x ∈ b) → a = b
  | [], [], _, _, _ => rfl
  | [], y :: b, _, _, h => by have := (h y).2 (List.mem_cons_self ..); cases this
  | x :: a, [], _, _, h => by have := (h x).1 (List.mem_cons_self ..); cases this
  | x :: a, y :: b, ha, hb, h => by
    obtain ⟨ha1, ha2⟩ := List.pairwise_cons.1 ha
    obtain ⟨hb1, hb2⟩ := List.pairwise_cons.1 hb
    have hxy : x = y := by
      rcases List.mem_cons.1 ((h x).1 (List.mem_cons_self ..)) with e | hx
      · exact e
      · rcases List.mem_cons.1 ((h y).2 (List.mem_cons_self ..)) with e | hy
        · exact e.symm
        · exact absurd (ltP_trans (ha1 y hy) (hb1 x hx)) (ltP_irrefl _)
    subst hxy
    congr 1
    refine sortedP_ext a b ha2 hb2 fun z => ⟨fun hz => ?_, fun hz => ?_⟩
    · rcases List.mem_cons.1 ((h z).1 (List.mem_cons_of_mem _ hz)) with e | hz'
      · subst e; exact absurd (ha1 z hz) (ltP_irrefl _)
      · exact hz'
    · rcases List.mem_cons.1 ((h z).2 (List.mem_cons_of_mem _ hz)) with e | hz'
      · subst e; exact absurd (hb1 z hz) (ltP_irrefl _)
      · exact hz'
theorem revL_revL {n : Nat} {l : List (Int × Int)} (h : Vld n l) : revL (revL l) = l :=
  sortedP_ext _ _ (revL_vld (revL_vld h)).2 h.2 fun p => by obtain ⟨a, b⟩ := p; rw [mem_revL, mem_revL]

/-- a pair's two cells -/
def encP (p : Int × Int) : List Value := [.int .i64 p.1, .int .i64 p.2]
theorem flatK_encP (d : Array (Int × Int)) {k : Nat} (h : k < d.size) : (Go.Sort.flatK encP 2 d)[k * 2]! = .int .i64 d[k]!.1 ∧ (Go.Sort.flatK encP 2 d)[k * 2 + 1]! = .int .i64 d[k]!.2 := by
  rw [Go.Sort.get_flatK _ _ _ _ (by omega), Go.Sort.get_flatK _ _ _ _ (by omega)]
  have e1 : k * 2 / 2 = k := by omega
  have e2 : (k * 2 + 1) / 2 = k := by omega
  have e3 : k * 2 % 2 = 0 := by omega
  have e4 : (k * 2 + 1) % 2 = 1 := by omega
  rw [e1, e2, e3, e4]
  exact ⟨rfl, rfl⟩
theorem rp_of_holds {w : World} {g : Nat} {l : List (Int × Int)} (h : Go.Sort.HoldsK encP 2 w g 0 l.toArray) : RP w (some ⟨g, 0, none⟩) l := by
  intro k hk
  have hd : k < l.toArray.size := by simpa using hk
  obtain ⟨f1, f2⟩ := flatK_encP l.toArray hd
  have hg : l.toArray[k]! = l.getD k (0, 0) := by simp [List.getD, hk]
  have h1 := (h (k * 2) (by simp; omega)).1
  have h2 := (h (k * 2 + 1) (by simp; omega)).1
  rw [f1, hg] at h1
  rw [f2, hg] at h2
  refine ⟨g, 0, rfl, h1, ?_⟩
  rw [Nat.zero_add] at h2 ⊢
  exact h2
theorem holds_of_own {w : World} {b g c : Nat} {l : List (Int × Int)} (h : OwnP w b (.slice (some ⟨g, 0, none⟩) l.length c) l) : Go.Sort.HoldsK encP 2 w g 0 l.toArray := by
  have h' := h
  obtain ⟨h1, h2⟩ := h
  rcases h2 with ⟨e, _⟩ | ⟨g', cap, cur, e, hg, hh, hn, hcap, hs, ht⟩
  · cases e
  · injection e with e1 e2 e3
    injection e1 with e1
    injection e1 with e1 _ _
    subst e1
    intro j hj
    have hj' : j < l.length * 2 := by simpa using hj
    refine ⟨?_, by simp [World.frozen?, hh]⟩
    have hk : j / 2 < l.length := by omega
    obtain ⟨p1, p2⟩ := flatP_at l (j / 2) hk
    obtain ⟨f1, f2⟩ := flatK_encP l.toArray (k := j / 2) (by simpa using hk)
    have hg2 : l.toArray[j / 2]! = l.getD (j / 2) (0, 0) := by simp [List.getD, hk]
    rw [hg2] at f1 f2
    rcases Nat.mod_two_eq_zero_or_one j with hm | hm
    · have e : j / 2 * 2 = j := by omega
      rw [e] at p1 f1
      have hc := h'.cells (g := g) rfl _ _ p1
      rw [show (⟨g, 0, none⟩ : Addr).add j = ⟨g, 0 + j, none⟩ by unfold Addr.add; split <;> simp_all] at hc
      rw [f1]; exact hc
    · have e : j / 2 * 2 + 1 = j := by omega
      rw [e] at p2 f2
      have hc := h'.cells (g := g) rfl _ _ p2
      rw [show (⟨g, 0, none⟩ : Addr).add j = ⟨g, 0 + j, none⟩ by unfold Addr.add; split <;> simp_all] at hc
      rw [f2]; exact hc
/-- what the sort leaves of the rest -/
theorem sorted_world {w : World} {g n : Nat} {d : Array (Int × Int)} {os : Array Obj} (hg : g < w.heap.size) : w.grownBy (sortWorldK encP 2 w g 0 n d os) (some g) ∧ ∀ B, B ≤ g → Below B w (sortWorldK encP 2 w g 0 n d os) := by
  have hsz : w.heap.size ≤ (sortWorldK encP 2 w g 0 n d os).heap.size := size_sortWorldK_c encP 2 w g 0 n d os
  have hblk : ∀ k, k < w.heap.size → k ≠ g → (sortWorldK encP 2 w g 0 n d os).heap[k]? = w.heap[k]? := fun k hk hne => by
    unfold sortWorldK
    rw [Go.Sort.heap_grow_old _ os (by rw [Go.Sort.size_putRowK]; exact hk)]
    unfold Go.Sort.putRowK Go.Sort.putRow Go.Sort.mapBlock
    simp only [Array.getElem?_modify, if_neg (fun e : g = k => hne e.symm)]
    rfl
  exact ⟨⟨rfl, rfl, rfl, hsz, fun k hk hne => hblk k hk (fun e => hne (congrArg some e))⟩, fun B hB => ⟨rfl, rfl, rfl, hsz, fun k hk => hblk k (by omega) (by omega)⟩⟩
end Go.Proofs.YtiljbfeipfdmdaaDoor
