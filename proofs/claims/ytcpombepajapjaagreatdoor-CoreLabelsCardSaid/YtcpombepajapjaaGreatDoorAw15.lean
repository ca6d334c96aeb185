/- law15.awake: the plain values. -/
import Derived.Test.YtcpombepajapjaaGreatDoorRfv
namespace Go.Proofs.YtcpombepajapjaaGreatDoor
open Go.ChangeShapes Go.WideShapes Go.ChangeAt Go.RowKit

/-- the graph of law15's awake -/
def g15 : List (Int × Int) := [(0, 1), (1, 0), (1, 2), (2, 2)]
theorem g15_val : valE 3 g15 = 0 := by decide +kernel
theorem g15_comp : compL 3 g15 = [[1, 2, 3], [2, 1, 2], [3, 3, 3]] := by decide +kernel
theorem g15_compR : compR 3 g15 = ([[1, 2, 3], [2, 1, 2], [3, 3, 3]], 0) := by
  rw [show (3 : Int) = ((3 : Nat) : Int) from rfl, compR_ok (by exact g15_val), g15_comp]; rfl
theorem g15_pref : bestR prefP 3 g15 = ([[1, 2, 3], [2, 1, 2]], 0) := by unfold bestR; rw [g15_compR]; decide +kernel
theorem g15_stab : bestR stabP 3 g15 = ([[2, 1, 2]], 0) := by unfold bestR; rw [g15_compR]; decide +kernel
theorem g15_semi : bestR semiP 3 g15 = ([[2, 1, 2]], 0) := by unfold bestR; rw [g15_compR]; decide +kernel
theorem g15_some : ([[1, 2, 3], [2, 1, 2]].any fun x => atB x 0) = true := by decide +kernel
theorem g15_all : ([[1, 2, 3], [2, 1, 2]].all fun x => atB x 0) = false := by decide +kernel

theorem lit23 (w : World) (a b c d e f : Int) : ∃ W, ((w.alloc (.cells #[.int .i64 a, .int .i64 b, .int .i64 c] 3)).alloc (.cells #[.int .i64 d, .int .i64 e, .int .i64 f] 3)).alloc (.cells #[.slice (some ⟨w.heap.size, 0, none⟩) 3 3, .slice (some ⟨w.heap.size + 1, 0, none⟩) 3 3] 26) = W ∧ RS W (some ⟨w.heap.size + 1 + 1, 0, none⟩) [[a, b, c], [d, e, f]] ∧ Below w.heap.size w W := by
  refine ⟨_, rfl, ?_, ((((Below.refl _ _).alloc (Nat.le_refl _) _).alloc (by simp) _).alloc (by simp; omega) _)⟩
  have s1 : (w.alloc (.cells #[.int .i64 a, .int .i64 b, .int .i64 c] 3)).heap.size = w.heap.size + 1 := by simp
  have s2 : ((w.alloc (.cells #[.int .i64 a, .int .i64 b, .int .i64 c] 3)).alloc (.cells #[.int .i64 d, .int .i64 e, .int .i64 f] 3)).heap.size = w.heap.size + 1 + 1 := by simp
  have h3 : ∀ (w : World) (a b c : Int), RI (w.alloc (.cells #[.int .i64 a, .int .i64 b, .int .i64 c] 3)) (some ⟨w.heap.size, 0, none⟩) [a, b, c] := by
    intro w a b c k hk
    refine ⟨w.heap.size, 0, rfl, ?_⟩
    rw [(Blk.new w 3 #[.int .i64 a, .int .i64 b, .int .i64 c]).cell]
    match k, hk with
    | 0, _ => rfl
    | 1, _ => rfl
    | 2, _ => rfl
  have h1 := h3 w a b c
  have h2 := h3 (w.alloc (.cells #[.int .i64 a, .int .i64 b, .int .i64 c] 3)) d e f
  rw [s1] at h2
  have := rs_new2 (c1 := 3) (c2 := 3) _ (h1.below (newB _ _)) h2
  rw [s2] at this
  exact this
theorem lit_g15 (w : World) : ∃ W, (w.alloc (.cells #[.int .i64 0, .int .i64 1, .int .i64 1, .int .i64 0, .int .i64 1, .int .i64 2, .int .i64 2, .int .i64 2] 45)).alloc (.cells #[.int .i64 3, .slice (some ⟨w.heap.size, 0, none⟩) 4 4] 24) = W ∧ RP W (some ⟨w.heap.size, 0, none⟩) g15 ∧ W.cell? ⟨w.heap.size + 1, 0, none⟩ = some (.int .i64 3) ∧ W.cell? ⟨w.heap.size + 1, 1, none⟩ = some (.slice (some ⟨w.heap.size, 0, none⟩) 4 4) ∧ Below w.heap.size w W := by
  have s1 : (w.alloc (.cells #[.int .i64 0, .int .i64 1, .int .i64 1, .int .i64 0, .int .i64 1, .int .i64 2, .int .i64 2, .int .i64 2] 45)).heap.size = w.heap.size + 1 := by simp
  have h0 : RP (w.alloc (.cells #[.int .i64 0, .int .i64 1, .int .i64 1, .int .i64 0, .int .i64 1, .int .i64 2, .int .i64 2, .int .i64 2] 45)) (some ⟨w.heap.size, 0, none⟩) g15 := by
    intro k hk
    refine ⟨w.heap.size, 0, rfl, ?_⟩
    rw [(Blk.new w 45 _).cell, (Blk.new w 45 _).cell]
    match k, hk with
    | 0, _ => exact ⟨rfl, rfl⟩
    | 1, _ => exact ⟨rfl, rfl⟩
    | 2, _ => exact ⟨rfl, rfl⟩
    | 3, _ => exact ⟨rfl, rfl⟩
  obtain ⟨W, hW, c0, c1, hb, _⟩ := boxed (w.alloc (.cells #[.int .i64 0, .int .i64 1, .int .i64 1, .int .i64 0, .int .i64 1, .int .i64 2, .int .i64 2, .int .i64 2] 45)) 24 (.int .i64 3) (.slice (some ⟨w.heap.size, 0, none⟩) 4 4)
  rw [s1] at c0 c1
  exact ⟨W, hW, h0.below hb, c0, c1, endB (newB _ _) hb⟩

end Go.Proofs.YtcpombepajapjaaGreatDoor
