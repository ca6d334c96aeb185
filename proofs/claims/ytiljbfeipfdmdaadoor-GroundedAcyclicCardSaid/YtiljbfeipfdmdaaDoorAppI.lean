/- An append to a slice of the call's own, with the word where the result lies. -/
import Derived.Test.YtiljbfeipfdmdaaDoorRowA
import Derived.ArgAppend
namespace Go.Proofs.YtiljbfeipfdmdaaDoor
open Go.ChangeShapes Go.WideShapes Go.ChangeAt Go.RowKit

set_option maxRecDepth 100000 in
/-- 'out = append(out, y)': as wpList_appI; the result lies where out lay, or in a new block -/
theorem wpList_appI2 {ops : Array Oper} {rest : List Oper} {o : Oper} {a : Act} {Q : Exit → Act → World → Prop} (hgd : o.guard = none) (s x : Operand)
    (ho : o.op = .call { callee := .builtin .append, args := #[s, x], argTypes := #[22, 22] })
    (X : World) (base : Nat) (v : Value) (l : List Int) (y : Int) (hown : OwnI X base v l) (hs : a.eval s = v) {gx : Nat} (hx : a.eval x = .slice (some ⟨gx, 0, none⟩) 1 1) (hgx : gx = X.heap.size)
    (hlen : l.length ≤ 1000000) (hbase : base ≤ X.heap.size)
    (h : ∀ v' w', OwnI w' base v' (l ++ [y]) → Below base X w' → X.grownBy w' v.ownBlock → (v'.ownBlock = v.ownBlock ∨ ∀ k, v'.ownBlock = some k → X.heap.size ≤ k) → wpList Tryd.prog ops Q rest (a.put o.dst v') w') :
    wpList Tryd.prog ops Q (o :: rest) a (X.alloc (.cells #[.int .i64 y] 3)) := by
  subst hgx
  obtain ⟨i0, hi, hz0, hz1, hz2⟩ := info_parts info_int
  have hbX : ∀ w', (X.alloc (.cells #[.int .i64 y] 3)).grownBy w' v.ownBlock → Below base X w' ∧ X.grownBy w' v.ownBlock := fun w' hg =>
    ⟨((Below.refl base X).alloc hbase _).grown hg (by simp; omega) (fun k hk => ((World.ownsRow.alloc hown (.cells #[.int .i64 y] 3)).lt k hk).1),
     ⟨hg.os, hg.tape, hg.output, Nat.le_trans (by simp) hg.size, fun k hk hne => (hg.block k (by simp; omega) hne).trans (Below.heap_alloc _ _ _ hk)⟩⟩
  have hgrow : ∀ (A : Option Addr) (cap : Nat), v = .slice A l.length cap → (A = none → l.length = 0 ∧ cap = 0) → cap < l.length + 1 → wpList Tryd.prog ops Q (o :: rest) a (X.alloc (.cells #[.int .i64 y] 3)) := by
    intro A cap hv hA hfull
    have hA2 : ∀ b, A = some b → ∀ j u, (l.map (Value.int .i64))[j]? = some u → (X.alloc (.cells #[.int .i64 y] 3)).cell? (b.add j) = some u := by
      intro b hb j u hj
      rcases hown.2 with ⟨e, hn⟩ | ⟨g, cp, cur, e, hg, r⟩
      · rw [hv, hb] at e; cases e
      · have hc := (World.ownsRow.alloc hown (.cells #[.int .i64 y] 3)).cells (g := g) (by rw [e]; rfl) j u hj
        rw [hv, hb] at e
        injection e with e _ _
        injection e with e
        rw [e]; exact hc
    refine wpList_append_grows (X.alloc (.cells #[.int .i64 y] 3)) hgd s x 22 ho 3 i0 (.int .i64 0) 1 8 Tryd.underlying22 hi hz0 hz1 hz2 rfl (by decide) A l.length cap (l.map (Value.int .i64)) (by rw [hs, hv]) hA (by simp) hA2
      ⟨X.heap.size, 0, none⟩ 1 1 [.int .i64 y] hx rfl (new_cell _ _ _) (by intro u hu; simp at hu; subst hu; rfl) hfull (by unfold maxLen; omega) (by omega) ?_
    intro v' w1 hown' hg
    have hsz : X.heap.size + 1 = (X.alloc (.cells #[.int .i64 y] 3)).heap.size := by simp
    have hg2 : (X.alloc (.cells #[.int .i64 y] 3)).grownBy w1 v.ownBlock := ⟨hg.os, hg.tape, hg.output, hg.size, fun k hk _ => hg.block k hk (by simp)⟩
    obtain ⟨h1, h2⟩ := hbX w1 hg2
    have ho' : OwnI w1 (X.alloc (.cells #[.int .i64 y] 3)).heap.size v' (l ++ [y]) := by unfold OwnI; rw [List.length_append, List.map_append]; exact hown'
    exact h v' w1 (ho'.mono (by omega)) h1 h2 (.inr fun k hk => by have := (World.ownsRow.lt ho' k hk).1; omega)
  rcases hown.2 with ⟨e, hn⟩ | ⟨g, cap, cur, e, hg, hh, hn, hcap, hrest⟩
  · exact hgrow none 0 (by rw [e, hn]) (fun _ => ⟨hn, rfl⟩) (by omega)
  · by_cases hroom : l.length + 1 ≤ cap
    · subst e
      refine wpList_append_fits _ hgd s x 22 ho base 3 i0 1 Tryd.underlying22 hi hz1 g l.length cap (l.map (Value.int .i64)) hs (World.ownsRow.alloc hown _) ⟨X.heap.size, 0, none⟩ 1 1 [.int .i64 y] hx rfl (new_cell _ _ _)
        (by intro u hu; simp at hu; subst hu; rfl) hroom ?_
      intro w1 hown' hg'
      obtain ⟨h1, h2⟩ := hbX w1 hg'
      refine h _ w1 ?_ h1 h2 (.inl rfl)
      unfold OwnI; rw [List.length_append, List.map_append]; exact hown'
    · exact hgrow _ cap e (fun h => by cases h) (by omega)

/-- two slices of the call's own lie apart -/
def Far (v u : Value) : Prop := ∀ k, v.ownBlock = some k → u.ownBlock ≠ some k
theorem Far.symm {v u : Value} (h : Far v u) : Far u v := fun k hk e => h k e hk
theorem Far.appended {X : World} {v v' u : Value} {b : Nat} {l : List Int} (h : Far v u) (hu : OwnI X b u l) (hv : v'.ownBlock = v.ownBlock ∨ ∀ k, v'.ownBlock = some k → X.heap.size ≤ k) : Far v' u := fun k hk e => by
  rcases hv with hv | hv
  · exact h k (by rw [← hv]; exact hk) e
  · have := hv k hk
    have := (World.ownsRow.lt hu k e).2
    omega
theorem Far.fresh {X : World} {v u : Value} {b : Nat} {l : List Int} (hv : OwnI X b v l) (hu : ∀ k, u.ownBlock = some k → X.heap.size ≤ k) : Far v u := fun k hk e => by
  have := hu k e
  have := (World.ownsRow.lt hv k hk).2
  omega
theorem Far.nil (u : Value) : Far (.slice none 0 0) u := fun k hk => by cases hk
theorem OwnI.keep {w w' : World} {b : Nat} {v u : Value} {l : List Int} (h : OwnI w b u l) (hg : w.grownBy w' v.ownBlock) (hf : Far v u) : OwnI w' b u l :=
  World.ownsRow.kept h hg (by
    cases hu : u.ownBlock with
    | none => exact .inl rfl
    | some k => exact .inr (fun e => hf k e.symm hu))
theorem OwnI.block {w : World} {b : Nat} {v : Value} {l : List Int} (h : OwnI w b v l) : ∀ k, v.ownBlock = some k → b ≤ k := fun k hk => (World.ownsRow.lt h k hk).1
end Go.Proofs.YtiljbfeipfdmdaaDoor
