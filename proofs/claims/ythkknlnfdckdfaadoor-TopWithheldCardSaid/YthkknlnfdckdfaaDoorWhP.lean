/- The nodes that are In, and the run of a dialogue about one of them. Plain words, no program in sight. -/
import Derived.Test.YthkknlnfdckdfaaDoorPrG
import Derived.Test.YthkknlnfdckdfaaDoorPn1
import Derived.Test.YthkknlnfdckdfaaDoorLov
namespace Go.Proofs.YthkknlnfdckdfaaDoor
open Go.ChangeShapes Go.WideShapes Go.ChangeAt Go.RowKit

/-- the nodes that are In -/
def inPool (n : Nat) (l : List (Int × Int)) : List Int := nodesB n fun i => grL n l i == 1
theorem grL_out {n : Nat} {l : List (Int × Int)} (hv : InR n l) {a b : Nat} (h : att l a b) : a < n := by
  have := hv.2.2 _ h
  simp only at this; omega
theorem nodesB_asc' (n : Nat) (f : Nat → Bool) : AscP n (nodesB n f) := fun i hi => by
  have hm : (nodesB n f).getD i 0 ∈ nodesB n f := by
    rw [List.getD_eq_getElem?_getD, List.getElem?_eq_getElem hi]; exact List.getElem_mem hi
  obtain ⟨k, hk, _, e⟩ := mem_nodesB.1 hm
  refine ⟨by omega, by omega, fun h0 => ?_⟩
  have hs := nodesB_sorted n f
  have := List.pairwise_iff_getElem.1 hs (i - 1) i (by omega) hi (by omega)
  rw [List.getD_eq_getElem?_getD, List.getD_eq_getElem?_getD, List.getElem?_eq_getElem hi, List.getElem?_eq_getElem (by omega : i - 1 < (nodesB n f).length)]
  exact this
theorem runG_len {l0 l1 : Int} {l : List (Int × Int)} {p1 p2 : List Int} {s1 s2 : Int} : ∀ (f : Nat) (ms : List Mv), ms.length ≤ 200 → (runG l0 l1 l p1 p2 s1 s2 f ms).length ≤ 200
  | 0, _, h => h
  | f + 1, ms, h => by
    unfold runG
    by_cases e : turnF l0 l1 l ms = 0
    · rw [if_pos e]; exact h
    · rw [if_neg e]
      have := (turn_run e).2.1
      exact runG_len f _ (by rw [List.length_append, List.length_singleton]; omega)
/-- what the statement asks of a run about a node that is In -/
theorem with_run {n : Nat} {l : List (Int × Int)} (hv : InR n l) {p2 : List Int} {s1 s2 root : Int} (hr : root ∈ inPool n l) :
    OkM (runG 200 200 l (inPool n l) p2 s1 s2 200 (clm root)) ∧ ((endF 200 200 l (runG 200 200 l (inPool n l) p2 s1 s2 200 (clm root))).2 = 4 ∨ (endF 200 200 l (runG 200 200 l (inPool n l) p2 s1 s2 200 (clm root))).1 = 1) := by
  have hk := gr_ranks hv
  have hw : WinI l (fun z => z ∈ inPool n l) (grL n l) (grR n l) :=
    ⟨fun p hp => by
      have := hv.2.2 p hp
      exact ⟨p.1.toNat, p.2.toNat, by rw [Int.toNat_of_nonneg (by omega), Int.toNat_of_nonneg (by omega)]⟩,
     fun z hz => by
      obtain ⟨k, hk, e, rfl⟩ := mem_nodesB.1 hz
      exact ⟨k, rfl, by simpa using e⟩,
     fun a b hab hLa => mem_nodesB.2 ⟨a, grL_out hv hab, by simpa using hLa, rfl⟩, hk.isIn, hk.isOut⟩
  obtain ⟨h1, h2⟩ := DgI.run (l0 := 200) (l1 := 200) (p2 := p2) (s1 := s1) (s2 := s2) hw (fun z => Iff.rfl) 200 (clm root) (DgI.clm hr) (by rw [clm_len]; omega)
  exact ⟨h1.ok, h1.outcome hw h2⟩
end Go.Proofs.YthkknlnfdckdfaaDoor
