/- Rows of moves of a dialogue. -/
import Derived.Test.YthkknlnfdckdfaaGreatDoorGenM
import Derived.Test.YthkknlnfdckdfaaGreatDoorPrP
namespace Go.Proofs.YthkknlnfdckdfaaGreatDoor
open Go.ChangeShapes Go.WideShapes Go.ChangeAt Go.RowKit

def RM (w : World) (A : Option Addr) (ms : List Mv) : Prop :=
  ∀ k, k < ms.length → ∃ b o, A = some ⟨b, o, none⟩ ∧ w.cell? ⟨b, o + k * 4, none⟩ = some (.int .i64 (mv ms k).1) ∧ w.cell? ⟨b, o + k * 4 + 1, none⟩ = some (.int .i64 (mv ms k).2.1) ∧ w.cell? ⟨b, o + k * 4 + 2, none⟩ = some (.int .i64 (mv ms k).2.2.1) ∧ w.cell? ⟨b, o + k * 4 + 3, none⟩ = some (.int .i64 (mv ms k).2.2.2)
theorem RM.nil (w : World) (A : Option Addr) : RM w A [] := fun k hk => absurd hk (by simp)
theorem RM.below {w w' : World} {A : Option Addr} {ms : List Mv} (h : RM w A ms) (hb : Below w.heap.size w w') : RM w' A ms := by
  intro k hk
  obtain ⟨b, o, hA, hc, hd, he, hf⟩ := h k hk
  exact ⟨b, o, hA, (hb.cell (lt_of_cell hc)).trans hc, (hb.cell (lt_of_cell hd)).trans hd, (hb.cell (lt_of_cell he)).trans he, (hb.cell (lt_of_cell hf)).trans hf⟩
theorem RM.grown {w w' : World} {A : Option Addr} {ms : List Mv} {p : Nat} (h : RM w A ms) (hg : w.grownBy w' (some p)) (hp : ∀ b o, A = some ⟨b, o, none⟩ → b ≠ p) : RM w' A ms := by
  intro k hk
  obtain ⟨b, o, hA, hc, hd, he, hf⟩ := h k hk
  have hne := hp b o hA
  have e := fun (i : Nat) (v : Value) (hc : w.cell? ⟨b, i, none⟩ = some v) => show w'.cell? ⟨b, i, none⟩ = some v by
    rw [← hc]; unfold World.cell?; rw [show w'.heap[b]? = w.heap[b]? from hg.block b (lt_of_cell hc) (fun e => by injection e with e; exact hne e)]
  exact ⟨b, o, hA, e _ _ hc, e _ _ hd, e _ _ he, e _ _ hf⟩
def flatM (ms : List Mv) : List Value := ms.flatMap fun p => [.int .i64 p.1, .int .i64 p.2.1, .int .i64 p.2.2.1, .int .i64 p.2.2.2]
theorem flatM_length (l : List Mv) : (flatM l).length = l.length * 4 := by
  unfold flatM
  induction l with
  | nil => rfl
  | cons p l ih => rw [List.flatMap_cons, List.length_append, ih]; simp; omega
theorem flatM_at (l : List Mv) (k : Nat) (h : k < l.length) : (flatM l)[k * 4]? = some (.int .i64 (mv l k).1) ∧ (flatM l)[k * 4 + 1]? = some (.int .i64 (mv l k).2.1) ∧ (flatM l)[k * 4 + 2]? = some (.int .i64 (mv l k).2.2.1) ∧ (flatM l)[k * 4 + 3]? = some (.int .i64 (mv l k).2.2.2) := by
  induction l generalizing k with
  | nil => simp at h
  | cons p l ih =>
    cases k with
    | zero => simp [flatM, mv]
    | succ k =>
      have := ih k (by simpa using h)
      have e : (k + 1) * 4 = k * 4 + 4 := by omega
      simp only [flatM, List.flatMap_cons, mv] at this ⊢
      rw [e]
      simp only [List.cons_append, List.nil_append, List.getElem?_cons_succ, List.getD_cons_succ] at this ⊢
      exact this
/-- the slice v, made by the call, holds the moves of the list -/
def OwnM (w : World) (base : Nat) (v : Value) (l : List Mv) : Prop := w.ownsRow base 89 4 v l.length (flatM l)
theorem OwnM.nil (w : World) (base : Nat) : OwnM w base (.slice none 0 0) [] := World.ownsRow_nil w base _ _
theorem OwnM.form {w : World} {b : Nat} {v : Value} {l : List Mv} (h : OwnM w b v l) : ∃ A c, v = .slice A l.length c ∧ RM w A l ∧ (A = none → l = [] ∧ c = 0) ∧ ∀ g o, A = some ⟨g, o, none⟩ → b ≤ g := by
  have h' := h
  obtain ⟨h1, h2⟩ := h
  rcases h2 with ⟨rfl, hn⟩ | ⟨g, cap, cur, rfl, hg, r⟩
  · have : l = [] := List.eq_nil_of_length_eq_zero hn
    subst this
    exact ⟨none, 0, rfl, RM.nil _ _, fun _ => ⟨rfl, rfl⟩, fun g o e => by cases e⟩
  · refine ⟨_, _, rfl, fun k hk => ?_, fun e => (by cases e), fun g' o e => ?_⟩
    · have h0 := flatM_at l k hk
      have c0 := h'.cells (g := g) rfl _ _ h0.1
      have c1 := h'.cells (g := g) rfl _ _ h0.2.1
      have c2 := h'.cells (g := g) rfl _ _ h0.2.2.1
      have c3 := h'.cells (g := g) rfl _ _ h0.2.2.2
      have e : ∀ i, (⟨g, 0, none⟩ : Addr).add i = ⟨g, 0 + i, none⟩ := fun i => by unfold Addr.add; split <;> simp_all
      rw [e] at c0 c1 c2 c3
      exact ⟨g, 0, rfl, c0, c1, c2, c3⟩
    · injection e with e; injection e with e; rw [← e]; exact (World.ownsRow.lt h' g rfl).1
theorem OwnM.below {w w' : World} {b : Nat} {v : Value} {l : List Mv} (h : OwnM w b v l) (hb : Below w.heap.size w w') : OwnM w' b v l := ownsRow_below h hb
theorem OwnM.grown {w w' : World} {b : Nat} {v : Value} {l : List Mv} {p : Nat} (h : OwnM w b v l) (hg : w.grownBy w' (some p)) (hp : p < b) : OwnM w' b v l :=
  World.ownsRow.kept h hg (.inr fun e => by have := (World.ownsRow.lt h p e).1; omega)
theorem OwnM.mono {w : World} {b b' : Nat} {v : Value} {l : List Mv} (h : OwnM w b v l) (hb : b' ≤ b) : OwnM w b' v l := by
  obtain ⟨h1, h2⟩ := h
  refine ⟨h1, ?_⟩
  rcases h2 with h2 | ⟨g, cap, cur, e, hg, r⟩
  · exact .inl h2
  · exact .inr ⟨g, cap, cur, e, Nat.le_trans hb hg, r⟩
theorem new_mv (w : World) (x y z u : Value) (t : TypeId) : ∀ j v, [x, y, z, u][j]? = some v → (w.alloc (.cells #[x, y, z, u] t)).cell? ((⟨w.heap.size, 0, none⟩ : Addr).add j) = some v := by
  intro j v hj
  match j, hj with
  | 0, hj =>
    simp at hj; subst hj
    have := (Blk.new w t #[x, y, z, u]).cell 0
    simp [Addr.add, this]
  | 1, hj =>
    simp at hj; subst hj
    have := (Blk.new w t #[x, y, z, u]).cell 1
    simp [Addr.add, this]
  | 2, hj =>
    simp at hj; subst hj
    have := (Blk.new w t #[x, y, z, u]).cell 2
    simp [Addr.add, this]
  | 3, hj =>
    simp at hj; subst hj
    have := (Blk.new w t #[x, y, z, u]).cell 3
    simp [Addr.add, this]
theorem info_mv : (Tryz.prog.info? 89).map (fun i => (i.zero, i.size, i.bytes)) = some (some (.agg #[.int .i64 0, .int .i64 0, .int .i64 0, .int .i64 0]), 4, 32) := by kernel_rfl
/-- 'out = append(out, a move)' -/
theorem wpList_appM {ops : Array Oper} {rest : List Oper} {o : Oper} {a : Act} {Q : Exit → Act → World → Prop} (hgd : o.guard = none) (s x : Operand)
    (ho : o.op = .call { callee := .builtin .append, args := #[s, x], argTypes := #[53, 53] })
    (X : World) (base : Nat) (v : Value) (l : List Mv) (m : Mv) (hown : OwnM X base v l) (hs : a.eval s = v) (hx : a.eval x = .slice (some ⟨X.heap.size, 0, none⟩) 1 1)
    (hlen : l.length ≤ 1000000) (hbase : base ≤ X.heap.size)
    (h : ∀ v' w', OwnM w' base v' (l ++ [m]) → Below base X w' → X.grownBy w' v.ownBlock → wpList Tryz.prog ops Q rest (a.put o.dst v') w') :
    wpList Tryz.prog ops Q (o :: rest) a (X.alloc (.cells #[.int .i64 m.1, .int .i64 m.2.1, .int .i64 m.2.2.1, .int .i64 m.2.2.2] 89)) := by
  obtain ⟨i0, hi, hz0, hz1, hz2⟩ := info_parts info_mv
  refine wpList_append_own _ hgd s x 53 ho base 89 i0 _ 4 32 Tryz.underlying53 hi hz0 hz1 hz2 rfl (by decide) v l.length _ hs (World.ownsRow.alloc hown _) ⟨X.heap.size, 0, none⟩ 1 1 [.int .i64 m.1, .int .i64 m.2.1, .int .i64 m.2.2.1, .int .i64 m.2.2.2] hx rfl (new_mv _ _ _ _ _ _)
    (by intro u hu; simp at hu; rcases hu with rfl | rfl | rfl | rfl <;> rfl) (by unfold maxLen; omega) (by omega) (by simp; omega) ?_
  intro v' w1 hown' hgrow _
  refine h v' w1 ?_ ?_ ?_
  · unfold OwnM; rw [List.length_append]; simp only [flatM, List.flatMap_append]; exact hown'
  · exact ((Below.refl base X).alloc hbase _).grown hgrow (by simp; omega) (fun k' hk => ((World.ownsRow.alloc hown (.cells #[.int .i64 m.1, .int .i64 m.2.1, .int .i64 m.2.2.1, .int .i64 m.2.2.2] 89)).lt k' hk).1)
  · exact ⟨hgrow.os, hgrow.tape, hgrow.output, Nat.le_trans (by simp) hgrow.size, fun k hk hne => (hgrow.block k (by simp; omega) hne).trans (Below.heap_alloc _ _ _ hk)⟩
set_option maxRecDepth 100000 in
/-- 'out = append(out, m)': as wpList_appM; the result lies where out lay, or in a new block -/
theorem wpList_appM2 {ops : Array Oper} {rest : List Oper} {o : Oper} {a : Act} {Q : Exit → Act → World → Prop} (hgd : o.guard = none) (s x : Operand)
    (ho : o.op = .call { callee := .builtin .append, args := #[s, x], argTypes := #[53, 53] })
    (X : World) (base : Nat) (v : Value) (l : List Mv) (m : Mv) (hown : OwnM X base v l) (hs : a.eval s = v) (hx : a.eval x = .slice (some ⟨X.heap.size, 0, none⟩) 1 1)
    (hlen : l.length ≤ 1000000) (hbase : base ≤ X.heap.size)
    (h : ∀ v' w', OwnM w' base v' (l ++ [m]) → Below base X w' → X.grownBy w' v.ownBlock → (v'.ownBlock = v.ownBlock ∨ ∀ k, v'.ownBlock = some k → X.heap.size ≤ k) → wpList Tryz.prog ops Q rest (a.put o.dst v') w') :
    wpList Tryz.prog ops Q (o :: rest) a (X.alloc (.cells #[.int .i64 m.1, .int .i64 m.2.1, .int .i64 m.2.2.1, .int .i64 m.2.2.2] 89)) := by
  obtain ⟨i0, hi, hz0, hz1, hz2⟩ := info_parts info_mv
  have hbX : ∀ w', (X.alloc (.cells #[.int .i64 m.1, .int .i64 m.2.1, .int .i64 m.2.2.1, .int .i64 m.2.2.2] 89)).grownBy w' v.ownBlock → Below base X w' ∧ X.grownBy w' v.ownBlock := fun w' hg =>
    ⟨((Below.refl base X).alloc hbase _).grown hg (by simp; omega) (fun k hk => ((World.ownsRow.alloc hown (.cells #[.int .i64 m.1, .int .i64 m.2.1, .int .i64 m.2.2.1, .int .i64 m.2.2.2] 89)).lt k hk).1),
     ⟨hg.os, hg.tape, hg.output, Nat.le_trans (by simp) hg.size, fun k hk hne => (hg.block k (by simp; omega) hne).trans (Below.heap_alloc _ _ _ hk)⟩⟩
  have hgrow : ∀ (A : Option Addr) (cap : Nat), v = .slice A l.length cap → (A = none → l.length = 0 ∧ cap = 0) → cap < l.length + 1 → wpList Tryz.prog ops Q (o :: rest) a (X.alloc (.cells #[.int .i64 m.1, .int .i64 m.2.1, .int .i64 m.2.2.1, .int .i64 m.2.2.2] 89)) := by
    intro A cap hv hA hfull
    have hA2 : ∀ b, A = some b → ∀ j u, (flatM l)[j]? = some u → (X.alloc (.cells #[.int .i64 m.1, .int .i64 m.2.1, .int .i64 m.2.2.1, .int .i64 m.2.2.2] 89)).cell? (b.add j) = some u := by
      intro b hb j u hj
      rcases hown.2 with ⟨e, hn⟩ | ⟨g, cp, cur, e, hg, r⟩
      · rw [hv, hb] at e; cases e
      · have hc := (World.ownsRow.alloc hown (.cells #[.int .i64 m.1, .int .i64 m.2.1, .int .i64 m.2.2.1, .int .i64 m.2.2.2] 89)).cells (g := g) (by rw [e]; rfl) j u hj
        rw [hv, hb] at e
        injection e with e _ _
        injection e with e
        rw [e]; exact hc
    refine wpList_append_grows (X.alloc (.cells #[.int .i64 m.1, .int .i64 m.2.1, .int .i64 m.2.2.1, .int .i64 m.2.2.2] 89)) hgd s x 53 ho 89 i0 (.agg #[.int .i64 0, .int .i64 0, .int .i64 0, .int .i64 0]) 4 32 Tryz.underlying53 hi hz0 hz1 hz2 rfl (by decide) A l.length cap (flatM l) (by rw [hs, hv]) hA (flatM_length l) hA2
      ⟨X.heap.size, 0, none⟩ 1 1 [.int .i64 m.1, .int .i64 m.2.1, .int .i64 m.2.2.1, .int .i64 m.2.2.2] hx rfl (new_mv _ _ _ _ _ _) (by intro u hu; simp at hu; rcases hu with rfl | rfl | rfl | rfl <;> rfl) hfull (by unfold maxLen; omega) (by omega) ?_
    intro v' w1 hown' hg
    have hsz : X.heap.size + 1 = (X.alloc (.cells #[.int .i64 m.1, .int .i64 m.2.1, .int .i64 m.2.2.1, .int .i64 m.2.2.2] 89)).heap.size := by simp
    have hg2 : (X.alloc (.cells #[.int .i64 m.1, .int .i64 m.2.1, .int .i64 m.2.2.1, .int .i64 m.2.2.2] 89)).grownBy w1 v.ownBlock := ⟨hg.os, hg.tape, hg.output, hg.size, fun k hk _ => hg.block k hk (by simp)⟩
    obtain ⟨h1, h2⟩ := hbX w1 hg2
    have ho' : OwnM w1 (X.alloc (.cells #[.int .i64 m.1, .int .i64 m.2.1, .int .i64 m.2.2.1, .int .i64 m.2.2.2] 89)).heap.size v' (l ++ [m]) := by unfold OwnM; rw [List.length_append]; simp only [flatM, List.flatMap_append]; exact hown'
    exact h v' w1 (ho'.mono (by omega)) h1 h2 (.inr fun k hk => by have := (World.ownsRow.lt ho' k hk).1; omega)
  rcases hown.2 with ⟨e, hn⟩ | ⟨g, cap, cur, e, hg, hh, hn, hcap, hrest⟩
  · exact hgrow none 0 (by rw [e, hn]) (fun _ => ⟨hn, rfl⟩) (by omega)
  · by_cases hroom : l.length + 1 ≤ cap
    · subst e
      refine wpList_append_fits _ hgd s x 53 ho base 89 i0 4 Tryz.underlying53 hi hz1 g l.length cap (flatM l) hs (World.ownsRow.alloc hown _) ⟨X.heap.size, 0, none⟩ 1 1 [.int .i64 m.1, .int .i64 m.2.1, .int .i64 m.2.2.1, .int .i64 m.2.2.2] hx rfl (new_mv _ _ _ _ _ _)
        (by intro u hu; simp at hu; rcases hu with rfl | rfl | rfl | rfl <;> rfl) hroom ?_
      intro w1 hown' hg'
      obtain ⟨h1, h2⟩ := hbX w1 hg'
      refine h _ w1 ?_ h1 h2 (.inl rfl)
      unfold OwnM; rw [List.length_append]; simp only [flatM, List.flatMap_append]; exact hown'
    · exact hgrow _ cap e (fun h => by cases h) (by omega)
set_option maxRecDepth 100000 in
/-- 'out = append(out, xs...)', out a slice of moves of the call's own -/
theorem wpList_appMs {ops : Array Oper} {rest : List Oper} {o : Oper} {a : Act} {Q : Exit → Act → World → Prop} (hgd : o.guard = none) (s x : Operand)
    (ho : o.op = .call { callee := .builtin .append, args := #[s, x], argTypes := #[53, 53] })
    (X : World) (base : Nat) (v : Value) (l : List Mv) (B : Option Addr) (l2 : List Mv) (c : Nat) (hown : OwnM X base v l) (hr : RM X B l2) (hB : B = none → l2 = [] ∧ c = 0) (hs : a.eval s = v) (hx : a.eval x = .slice B l2.length c)
    (hlen : l.length + l2.length ≤ 1000000) (hbase : base ≤ X.heap.size)
    (h : ∀ v' w', OwnM w' base v' (l ++ l2) → Below base X w' → X.grownBy w' v.ownBlock → wpList Tryz.prog ops Q rest (a.put o.dst v') w') :
    wpList Tryz.prog ops Q (o :: rest) a X := by
  obtain ⟨i0, hi, hz0, hz1, hz2⟩ := info_parts info_mv
  cases B with
  | none =>
    obtain ⟨rfl, rfl⟩ := hB rfl
    refine wpList_append_own_none hgd s x 53 ho base 89 i0 4 Tryz.underlying53 hi v l.length _ hs hown hx (h v X ?_ (Below.refl _ _) (grownBy_refl _ _))
    rw [List.append_nil]; exact hown
  | some ad =>
    refine wpList_append_own _ hgd s x 53 ho base 89 i0 (.agg #[.int .i64 0, .int .i64 0, .int .i64 0, .int .i64 0]) 4 32 Tryz.underlying53 hi hz0 hz1 hz2 rfl (by decide) v l.length _ hs hown ad l2.length c (flatM l2) hx (flatM_length l2) (fun j u hu => ?_)
      (by
        intro u hu
        unfold flatM at hu
        rw [List.mem_flatMap] at hu
        obtain ⟨y, _, hy⟩ := hu
        simp at hy
        rcases hy with rfl | rfl | rfl | rfl <;> rfl) (by unfold maxLen; omega) (by omega) hbase ?_
    · have hj := (List.getElem?_eq_some_iff.1 hu).1
      rw [flatM_length] at hj
      have hk : j / 4 < l2.length := by omega
      obtain ⟨b, off, hA, hc, hd, he, hf⟩ := hr (j / 4) hk
      injection hA with hA; subst hA
      have hg := flatM_at l2 (j / 4) hk
      have hadd : (⟨b, off, none⟩ : Addr).add j = ⟨b, off + j, none⟩ := by unfold Addr.add; split <;> simp_all
      rw [hadd]
      have hm : j % 4 = 0 ∨ j % 4 = 1 ∨ j % 4 = 2 ∨ j % 4 = 3 := by omega
      rcases hm with hm | hm | hm | hm
      · rw [show j / 4 * 4 = j by omega] at hc hg
        rw [hc, ← hu]; exact hg.1.symm
      · rw [show off + j / 4 * 4 + 1 = off + j by omega] at hd
        rw [show j / 4 * 4 + 1 = j by omega] at hg
        rw [hd, ← hu]; exact hg.2.1.symm
      · rw [show off + j / 4 * 4 + 2 = off + j by omega] at he
        rw [show j / 4 * 4 + 2 = j by omega] at hg
        rw [he, ← hu]; exact hg.2.2.1.symm
      · rw [show off + j / 4 * 4 + 3 = off + j by omega] at hf
        rw [show j / 4 * 4 + 3 = j by omega] at hg
        rw [hf, ← hu]; exact hg.2.2.2.symm
    · intro v' w1 hown' hgrow _
      refine h v' w1 ?_ ((Below.refl base X).grown hgrow hbase (fun k hk => (hown.lt k hk).1)) hgrow
      unfold OwnM; rw [List.length_append]; simp only [flatM, List.flatMap_append]; exact hown'
theorem own_emptyM (w : World) : OwnM (w.alloc (.cells #[] 89)) w.heap.size (.slice (some ⟨w.heap.size, 0, none⟩) 0 0) [] :=
  World.ownsRow_made w #[] 0 (Nat.le_refl _) (by decide) (by simp)
theorem und_mv : Tryz.prog.underlying 89 = some (.struct (Tryz.prog.fieldsOf 89)) := by kernel_rfl
theorem run_eqlM (k f t u k' x y z : Int) (w : World) : (binOp .eql 89 (.agg #[.int .i64 k, .int .i64 f, .int .i64 t, .int .i64 u]) (.agg #[.int .i64 k', .int .i64 x, .int .i64 y, .int .i64 z])).run Tryz.prog w = .ok (.bool (k == k' && (f == x && (t == y && u == z)))) w := by
  have u3 := Tryz.underlying3
  have a3 := Tryz.isAgg3
  have z3 := Tryz.sizeOf3
  have hp : Tryz.prog.stoodInHeld 89 = false := by kernel_rfl
  rw [run_eql_struct, show (10000 : Nat) = 9999 + 1 from rfl, run_equalIn_agg w 9999 89 _ _ und_mv hp]
  simp only [Program.fieldsOf, Tryz.underlying89]
  go_simp
  by_cases h0 : k = k' <;> by_cases h1 : f = x <;> by_cases h2 : t = y <;> by_cases h3 : u = z <;> simp [h0, h1, h2, h3]
/-- the call returns a new slice of moves -/
def RetMn (l : List Mv) (w : World) : Ending → World → Prop := fun e w' => ∃ A c, e = .returned (.slice A l.length c) ∧ OwnM w' w.heap.size (.slice A l.length c) l ∧ Below w.heap.size w w'
end Go.Proofs.YthkknlnfdckdfaaGreatDoor
