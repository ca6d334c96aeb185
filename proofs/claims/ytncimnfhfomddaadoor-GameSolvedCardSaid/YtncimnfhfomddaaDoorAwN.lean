/- keep.Lists; law14: pairs, awake. -/
import Derived.Test.YtncimnfhfomddaaDoorRn14
import Derived.Test.YtncimnfhfomddaaDoorLis0
namespace Go.Proofs.YtncimnfhfomddaaDoor
open Go.ChangeShapes Go.WideShapes Go.ChangeAt Go.RowKit

theorem new_pair4 (w : World) (x y z u : Value) (t : TypeId) : ∀ j v, [x, y, z, u][j]? = some v → (w.alloc (.cells #[x, y, z, u] t)).cell? ((⟨w.heap.size, 0, none⟩ : Addr).add j) = some v := by
  intro j v hj
  have hb := Blk.new w t #[x, y, z, u]
  match j, hj with
  | 0, hj => simp at hj; subst hj; have := hb.cell 0; simp [Addr.add, this]
  | 1, hj => simp at hj; subst hj; have := hb.cell 1; simp [Addr.add, this]
  | 2, hj => simp at hj; subst hj; have := hb.cell 2; simp [Addr.add, this]
  | 3, hj => simp at hj; subst hj; have := hb.cell 3; simp [Addr.add, this]
/-- 'out = append(out, api.Pair{..}, api.Pair{..})' -/
theorem wpList_appP4 {ops : Array Oper} {rest : List Oper} {o : Oper} {a : Act} {Q : Exit → Act → World → Prop} (hgd : o.guard = none) (s x : Operand)
    (ho : o.op = .call { callee := .builtin .append, args := #[s, x], argTypes := #[22, 22] })
    (X : World) (base : Nat) (v : Value) (l : List (Int × Int)) (y z y2 z2 : Int) (hown : OwnP X base v l) (hs : a.eval s = v) {gx : Nat} (hx : a.eval x = .slice (some ⟨gx, 0, none⟩) 2 2) (hgx : gx = X.heap.size)
    (hlen : l.length ≤ 1000000) (hbase : base ≤ X.heap.size)
    (h : ∀ v' w', OwnP w' base v' (l ++ [(y, z), (y2, z2)]) → Below base X w' → X.grownBy w' v.ownBlock → wpList Tryd.prog ops Q rest (a.put o.dst v') w') :
    wpList Tryd.prog ops Q (o :: rest) a (X.alloc (.cells #[.int .i64 y, .int .i64 z, .int .i64 y2, .int .i64 z2] 42)) := by
  subst hgx
  obtain ⟨i0, hi, hz0, hz1, hz2⟩ := info_parts info_pair
  refine wpList_append_own _ hgd s x 22 ho base 42 i0 _ 2 16 Tryd.underlying22 hi hz0 hz1 hz2 rfl (by decide) v l.length _ hs (World.ownsRow.alloc hown _) ⟨X.heap.size, 0, none⟩ 2 2 [.int .i64 y, .int .i64 z, .int .i64 y2, .int .i64 z2] hx rfl (new_pair4 _ _ _ _ _ _)
    (by intro u hu; simp at hu; rcases hu with rfl | rfl | rfl | rfl <;> rfl) (by unfold maxLen; omega) (by omega) (by simp; omega) ?_
  intro v' w1 hown' hgrow _
  refine h v' w1 ?_ ?_ ?_
  · unfold OwnP; rw [List.length_append]; simp only [flatP, List.flatMap_append]; exact hown'
  · exact ((Below.refl base X).alloc hbase _).grown hgrow (by simp; omega) (fun k hk => ((World.ownsRow.alloc hown (.cells #[.int .i64 y, .int .i64 z, .int .i64 y2, .int .i64 z2] 42)).lt k hk).1)
  · exact ⟨hgrow.os, hgrow.tape, hgrow.output, Nat.le_trans (by simp) hgrow.size, fun k hk hne => (hgrow.block k (by simp; omega) hne).trans (Below.heap_alloc _ _ _ hk)⟩
theorem prL_more (k : Nat) : prL (k + 1) = prL k ++ [(2 * (k : Int), 2 * (k : Int) + 1), (2 * (k : Int) + 1, 2 * (k : Int))] := by
  unfold prL
  rw [List.range_succ, List.flatMap_append]
  simp

theorem comp_pr1 : compR ((2 * 1 : Nat) : Int) (prL 1) = ([[1, 2], [2, 1], [3, 3]], 0) := by decide +kernel
theorem nav_pr1 : navR ((2 * 1 : Nat) : Int) (prL 1) = ([[0], [1]], 0) := by decide +kernel
theorem comp_0 : compR 0 [] = ([[]], 0) := by decide +kernel
/-- numbers that have just been laid -/
theorem ri_new2 (w : World) (a b : Int) : RI (w.alloc (.cells #[.int .i64 a, .int .i64 b] 3)) (some ⟨w.heap.size, 0, none⟩) [a, b] := fun k hk => by
  have hb := Blk.new w 3 #[.int .i64 a, .int .i64 b]
  refine ⟨w.heap.size, 0, rfl, ?_⟩
  rw [hb.cell]
  match k, hk with
  | 0, _ => rfl
  | 1, _ => rfl
theorem ri_new1 (w : World) (a : Int) : RI (w.alloc (.cells #[.int .i64 a] 3)) (some ⟨w.heap.size, 0, none⟩) [a] := fun k hk => by
  have hb := Blk.new w 3 #[.int .i64 a]
  refine ⟨w.heap.size, 0, rfl, ?_⟩
  rw [hb.cell]
  match k, hk with
  | 0, _ => rfl
theorem lit3 (w : World) (a b c d e f : Int) : ∃ W, (((w.alloc (.cells #[.int .i64 a, .int .i64 b] 3)).alloc (.cells #[.int .i64 c, .int .i64 d] 3)).alloc (.cells #[.int .i64 e, .int .i64 f] 3)).alloc (.cells #[.slice (some ⟨w.heap.size, 0, none⟩) 2 2, .slice (some ⟨w.heap.size + 1, 0, none⟩) 2 2, .slice (some ⟨w.heap.size + 1 + 1, 0, none⟩) 2 2] 25) = W ∧ RS W (some ⟨w.heap.size + 1 + 1 + 1, 0, none⟩) [[a, b], [c, d], [e, f]] ∧ Below w.heap.size w W := by
  refine ⟨_, rfl, ?_, (((((Below.refl _ _).alloc (Nat.le_refl _) _).alloc (by simp) _).alloc (by simp; omega) _).alloc (by simp; omega) _)⟩
  have s1 : (w.alloc (.cells #[.int .i64 a, .int .i64 b] 3)).heap.size = w.heap.size + 1 := by simp
  have s2 : ((w.alloc (.cells #[.int .i64 a, .int .i64 b] 3)).alloc (.cells #[.int .i64 c, .int .i64 d] 3)).heap.size = w.heap.size + 1 + 1 := by simp
  have s3 : (((w.alloc (.cells #[.int .i64 a, .int .i64 b] 3)).alloc (.cells #[.int .i64 c, .int .i64 d] 3)).alloc (.cells #[.int .i64 e, .int .i64 f] 3)).heap.size = w.heap.size + 1 + 1 + 1 := by simp
  have h1 := ri_new2 w a b
  have h2 := ri_new2 (w.alloc (.cells #[.int .i64 a, .int .i64 b] 3)) c d
  have h3 := ri_new2 ((w.alloc (.cells #[.int .i64 a, .int .i64 b] 3)).alloc (.cells #[.int .i64 c, .int .i64 d] 3)) e f
  rw [s1] at h2
  rw [s2] at h3
  have := rs_new3 (c1 := 2) (c2 := 2) (c3 := 2) _ ((h1.below (newB _ _)).below (newB _ _)) (h2.below (newB _ _)) h3
  rw [s3] at this
  exact this
theorem lit2 (w : World) (a b : Int) : ∃ W, ((w.alloc (.cells #[.int .i64 a] 3)).alloc (.cells #[.int .i64 b] 3)).alloc (.cells #[.slice (some ⟨w.heap.size, 0, none⟩) 1 1, .slice (some ⟨w.heap.size + 1, 0, none⟩) 1 1] 25) = W ∧ RS W (some ⟨w.heap.size + 1 + 1, 0, none⟩) [[a], [b]] ∧ Below w.heap.size w W := by
  refine ⟨_, rfl, ?_, ((((Below.refl _ _).alloc (Nat.le_refl _) _).alloc (by simp) _).alloc (by simp; omega) _)⟩
  have s1 : (w.alloc (.cells #[.int .i64 a] 3)).heap.size = w.heap.size + 1 := by simp
  have s2 : ((w.alloc (.cells #[.int .i64 a] 3)).alloc (.cells #[.int .i64 b] 3)).heap.size = w.heap.size + 1 + 1 := by simp
  have h1 := ri_new1 w a
  have h2 := ri_new1 (w.alloc (.cells #[.int .i64 a] 3)) b
  rw [s1] at h2
  have := rs_new2 (c1 := 1) (c2 := 1) _ (h1.below (newB _ _)) h2
  rw [s2] at this
  exact this

end Go.Proofs.YtncimnfhfomddaaDoor
