import Derived.Test.YtncimnfhfomddaaDoorDutV
import Derived.Test.YtncimnfhfomddaaDoorEn2
/- What the duties of a set are like; the changes of strict. -/
namespace Go.Proofs.YtncimnfhfomddaaDoor
open Go.ChangeShapes Go.WideShapes Go.ChangeAt Go.RowKit

theorem mask_nil : maskN [] = 0 := rfl
theorem dutL_nil {n : Nat} {G : List (Int × Int)} {kind : Int} (hh : hpB n [] kind = false) (hk : kind = 1 ∨ kind = 2) : dutL n G [] kind = [] := by
  unfold dutL dutA
  have h1 : (G.filter fun p => (maskN []).testBit p.1.toNat && (maskN []).testBit p.2.toNat) = [] := by
    rw [List.filter_eq_nil_iff]
    intro p _
    rw [mask_nil, Nat.zero_testBit]
    simp
  have h2 : ((List.range n).filter (dutO n G (maskN []) kind)) = [] := by
    rw [List.filter_eq_nil_iff]
    intro a ha
    have ha := List.mem_range.1 ha
    rcases hk with rfl | rfl
    · unfold dutO
      rw [mask_nil, Nat.and_zero]
      simp
    · unfold hpB at hh
      simp at hh
      omega
  rw [h1, h2]
  rfl
theorem dut_ok {n : Nat} {G : List (Int × Int)} {s : List Int} {kind : Int} (hv : Vld n G) (hst : setB n s = true) (hh : hpB n s kind = false) (hk : kind = 1 ∨ kind = 2) :
    ∀ l ∈ dutL n G s kind, s ≠ [] ∧ l ≠ [] ∧ ∀ p ∈ l, okP n p := by
  intro l hl
  have hs : s ≠ [] := fun e => by subst e; rw [dutL_nil hh hk] at hl; cases hl
  refine ⟨hs, ?_⟩
  unfold dutL dutA at hl
  rcases List.mem_append.1 hl with hl | hl
  · obtain ⟨p, hp, rfl⟩ := List.mem_map.1 hl
    have hp := (List.mem_filter.1 hp).1
    refine ⟨by simp, fun q hq => ?_⟩
    rw [List.mem_singleton] at hq
    subst hq
    have := hv.1.2.2 _ hp
    unfold okP; omega
  · obtain ⟨a, ha, rfl⟩ := List.mem_map.1 hl
    have ha := List.mem_range.1 (List.mem_filter.1 ha).1
    refine ⟨fun e => ?_, fun p hp => ?_⟩
    · have h0 := congrArg List.length e
      rw [srtP_len] at h0
      unfold dutP at h0
      rw [List.length_append, List.length_map] at h0
      rw [List.length_nil] at h0
      exact hs (List.eq_nil_of_length_eq_zero (by omega))
    · rw [mem_srtP] at hp
      unfold dutP at hp
      rcases List.mem_append.1 hp with hp | hp
      · obtain ⟨x, hx, rfl⟩ := List.mem_map.1 hp
        have := setB_range hst x hx
        show (0 : Int) ≤ x ∧ x < (n : Int) ∧ (0 : Int) ≤ (a : Int) ∧ (a : Int) < (n : Int)
        omega
      · split at hp
        · obtain ⟨x, hx, rfl⟩ := List.mem_map.1 hp
          obtain ⟨j, _, hj, rfl⟩ := mem_nodesB.1 hx
          rw [Nat.testBit_and, Bool.and_eq_true] at hj
          have hj2 := bit_lt (setB_mask hv.1.1 hst).2 hj.2
          show (0 : Int) ≤ (a : Int) ∧ (a : Int) < (n : Int) ∧ (0 : Int) ≤ (j : Int) ∧ (j : Int) < (n : Int)
          omega
        · cases hp
/-- the change that meets a duty -/
def chgP (m : Nat) (s : List Int) (l : List (Int × Int)) : Int × Int :=
  let p := l.headD (0, 0)
  if m.testBit p.1.toNat && m.testBit p.2.toNat then p else (s.headD 0, if m.testBit p.2.toNat then p.1 else p.2)
/-- the changes of strict -/
def strC (n : Nat) (G : List (Int × Int)) (s : List Int) (kind : Int) : List (Int × Int) := (dutL n G s kind).map (chgP (maskN s) s)
end Go.Proofs.YtncimnfhfomddaaDoor
