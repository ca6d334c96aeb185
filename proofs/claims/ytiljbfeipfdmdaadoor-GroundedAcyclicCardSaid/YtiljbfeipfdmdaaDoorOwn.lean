/- Slices that the call itself makes: of numbers, of pairs, of slices; what an append leaves. -/
import Derived.Test.YtiljbfeipfdmdaaDoorPairs
import Derived.OwnWalk
namespace Go.Proofs.YtiljbfeipfdmdaaDoor
open Go.ChangeShapes Go.WideShapes Go.ChangeAt Go.RowKit

theorem info_int : (Tryd.prog.info? 3).map (fun i => (i.zero, i.size, i.bytes)) = some (some (.int .i64 0), 1, 8) := by kernel_rfl

/-- the slice v, made by the call (in a block from base on), holds the numbers of the list -/
def OwnI (w : World) (base : Nat) (v : Value) (l : List Int) : Prop := w.ownsRow base 3 1 v l.length (l.map (Value.int .i64))
theorem OwnI.nil (w : World) (base : Nat) : OwnI w base (.slice none 0 0) [] := World.ownsRow_nil w base _ _
theorem OwnI.mono {w : World} {b b' : Nat} {v : Value} {l : List Int} (h : OwnI w b v l) (hb : b' ≤ b) : OwnI w b' v l := by
  obtain ⟨h1, h2⟩ := h
  refine ⟨h1, ?_⟩
  rcases h2 with h2 | ⟨g, cap, cur, hv, hg, r⟩
  · exact .inl h2
  · exact .inr ⟨g, cap, cur, hv, Nat.le_trans hb hg, r⟩
theorem OwnI.form {w : World} {b : Nat} {v : Value} {l : List Int} (h : OwnI w b v l) : ∃ A c, v = .slice A l.length c ∧ RI w A l ∧ (A = none → l = []) := by
  have h' := h
  obtain ⟨h1, h2⟩ := h
  rcases h2 with ⟨rfl, hn⟩ | ⟨g, cap, cur, rfl, hg, r⟩
  · have : l = [] := List.eq_nil_of_length_eq_zero hn
    subst this
    exact ⟨none, 0, rfl, RI.nil _ _, fun _ => rfl⟩
  · refine ⟨_, _, rfl, fun k hk => ⟨g, 0, rfl, ?_⟩, fun e => by cases e⟩
    have hc := h'.cells (g := g) rfl k (.int .i64 (l.getD k 0)) (by simp [List.getD, hk])
    rw [show (⟨g, 0, none⟩ : Addr).add k = ⟨g, 0 + k, none⟩ by unfold Addr.add; split <;> simp_all] at hc
    exact hc
theorem OwnI.below {w w' : World} {b : Nat} {v : Value} {l : List Int} (h : OwnI w b v l) (hb : Below w.heap.size w w') : OwnI w' b v l :=
  World.ownsRow.kept h (row := none) ⟨hb.os, hb.tape, hb.output, hb.size, fun k hk _ => hb.block k hk⟩ (by cases v.ownBlock <;> simp)

/-- the call returns a new slice that holds the list, in a block from base on; what was there is as it was -/
def RetJ (l : List Int) (base : Nat) (w : World) : Ending → World → Prop := fun e w' => ∃ A c, e = .returned (.slice A l.length c) ∧ OwnI w' base (.slice A l.length c) l ∧ RI w' A l ∧ (A = none → l = []) ∧ Below w.heap.size w w'
def RetI (l : List Int) (w : World) : Ending → World → Prop := RetJ l w.heap.size w
theorem RetI.mk {l : List Int} {w w' : World} {v : Value} (h : OwnI w' w.heap.size v l) (hb : Below w.heap.size w w') : RetI l w (.returned v) w' := by
  obtain ⟨A, c, rfl, hr, hn⟩ := h.form
  exact ⟨A, c, rfl, h, hr, hn, hb⟩
theorem RetI.base {l : List Int} {w : World} {B : Nat} {e : Ending} {w' : World} (h : RetI l w e w') (hB : B ≤ w.heap.size) : RetJ l B w e w' := by
  obtain ⟨A, c, he, ho, hr, hn, hb⟩ := h
  exact ⟨A, c, he, OwnI.mono ho hB, hr, hn, hb⟩

theorem new_cell (w : World) (v : Value) (t : TypeId) : ∀ j u, [v][j]? = some u → (w.alloc (.cells #[v] t)).cell? ((⟨w.heap.size, 0, none⟩ : Addr).add j) = some u := by
  intro j u hj
  match j, hj with
  | 0, hj =>
    simp at hj; subst hj
    have := (Blk.new w t #[v]).cell 0
    simp [Addr.add, this]


/-- 'out = append(out, y)', out a slice of numbers of the call's own; y lies in a block of its own -/
theorem wpList_appI {ops : Array Oper} {rest : List Oper} {o : Oper} {a : Act} {Q : Exit → Act → World → Prop} (hgd : o.guard = none) (s x : Operand)
    (ho : o.op = .call { callee := .builtin .append, args := #[s, x], argTypes := #[22, 22] })
    (X : World) (base : Nat) (v : Value) (l : List Int) (y : Int) (hown : OwnI X base v l) (hs : a.eval s = v) (hx : a.eval x = .slice (some ⟨X.heap.size, 0, none⟩) 1 1)
    (hlen : l.length ≤ 1000000) (hbase : base ≤ X.heap.size)
    (h : ∀ v' w', OwnI w' base v' (l ++ [y]) → Below base X w' → X.grownBy w' v.ownBlock → wpList Tryd.prog ops Q rest (a.put o.dst v') w') :
    wpList Tryd.prog ops Q (o :: rest) a (X.alloc (.cells #[.int .i64 y] 3)) := by
  obtain ⟨i0, hi, hz0, hz1, hz2⟩ := info_parts info_int
  refine wpList_append_own _ hgd s x 22 ho base 3 i0 (.int .i64 0) 1 8 Tryd.underlying22 hi hz0 hz1 hz2 rfl (by decide) v l.length _ hs (World.ownsRow.alloc hown _) ⟨X.heap.size, 0, none⟩ 1 1 [.int .i64 y] hx rfl (new_cell _ _ _)
    (by intro u hu; simp at hu; subst hu; rfl) (by unfold maxLen; omega) (by omega) (by simp; omega) ?_
  intro v' w1 hown' hgrow _
  refine h v' w1 ?_ ?_ ?_
  · unfold OwnI; rw [List.length_append, List.map_append]; exact hown'
  · exact ((Below.refl base X).alloc hbase _).grown hgrow (by simp; omega) (fun k hk => ((World.ownsRow.alloc hown (.cells #[.int .i64 y] 3)).lt k hk).1)
  · exact ⟨hgrow.os, hgrow.tape, hgrow.output, Nat.le_trans (by simp) hgrow.size, fun k hk hne => (hgrow.block k (by simp; omega) hne).trans (Below.heap_alloc _ _ _ hk)⟩

theorem info_pair : (Tryd.prog.info? 46).map (fun i => (i.zero, i.size, i.bytes)) = some (some (.agg #[.int .i64 0, .int .i64 0]), 2, 16) := by kernel_rfl
def flatP (l : List (Int × Int)) : List Value := l.flatMap fun p => [.int .i64 p.1, .int .i64 p.2]
theorem flatP_length (l : List (Int × Int)) : (flatP l).length = l.length * 2 := by
  unfold flatP
  induction l with
  | nil => rfl
  | cons p l ih => rw [List.flatMap_cons, List.length_append, ih]; simp; omega
theorem flatP_at (l : List (Int × Int)) (k : Nat) (h : k < l.length) : (flatP l)[k * 2]? = some (.int .i64 (l.getD k (0, 0)).1) ∧ (flatP l)[k * 2 + 1]? = some (.int .i64 (l.getD k (0, 0)).2) := by
  induction l generalizing k with
  | nil => simp at h
  | cons p l ih =>
    cases k with
    | zero => simp [flatP]
    | succ k =>
      have := ih k (by simpa using h)
      have e : (k + 1) * 2 = k * 2 + 2 := by omega
      simp only [flatP, List.flatMap_cons] at this ⊢
      rw [e]
      simp only [List.cons_append, List.nil_append, List.getElem?_cons_succ, List.getD_cons_succ] at this ⊢
      exact this
/-- the slice v, made by the call, holds the pairs of the list -/
def OwnP (w : World) (base : Nat) (v : Value) (l : List (Int × Int)) : Prop := w.ownsRow base 46 2 v l.length (flatP l)
theorem OwnP.nil (w : World) (base : Nat) : OwnP w base (.slice none 0 0) [] := World.ownsRow_nil w base _ _
theorem ownsRow_mono {w : World} {b b' : Nat} {e : TypeId} {size n : Nat} {v : Value} {xs : List Value} (h : w.ownsRow b e size v n xs) (hb : b' ≤ b) : w.ownsRow b' e size v n xs := by
  obtain ⟨h1, h2⟩ := h
  refine ⟨h1, ?_⟩
  rcases h2 with h2 | ⟨g, cap, cur, hv, hg, r⟩
  · exact .inl h2
  · exact .inr ⟨g, cap, cur, hv, Nat.le_trans hb hg, r⟩
theorem ownsRow_below {w w' : World} {b : Nat} {e : TypeId} {size n : Nat} {v : Value} {xs : List Value} (h : w.ownsRow b e size v n xs) (hb : Below w.heap.size w w') : w'.ownsRow b e size v n xs :=
  World.ownsRow.kept h (row := none) ⟨hb.os, hb.tape, hb.output, hb.size, fun k hk _ => hb.block k hk⟩ (by cases v.ownBlock <;> simp)
theorem OwnP.form {w : World} {b : Nat} {v : Value} {l : List (Int × Int)} (h : OwnP w b v l) : ∃ A c, v = .slice A l.length c ∧ RP w A l ∧ (A = none → l = []) := by
  have h' := h
  obtain ⟨h1, h2⟩ := h
  rcases h2 with ⟨rfl, hn⟩ | ⟨g, cap, cur, rfl, hg, r⟩
  · have : l = [] := List.eq_nil_of_length_eq_zero hn
    subst this
    exact ⟨none, 0, rfl, RP.nil _ _, fun _ => rfl⟩
  · refine ⟨_, _, rfl, fun k hk => ?_, fun e => by cases e⟩
    have h0 := flatP_at l k hk
    have c0 := h'.cells (g := g) rfl _ _ h0.1
    have c1 := h'.cells (g := g) rfl _ _ h0.2
    rw [show (⟨g, 0, none⟩ : Addr).add (k * 2) = ⟨g, 0 + k * 2, none⟩ by unfold Addr.add; split <;> simp_all] at c0
    rw [show (⟨g, 0, none⟩ : Addr).add (k * 2 + 1) = ⟨g, 0 + k * 2 + 1, none⟩ by unfold Addr.add; split <;> simp_all] at c1
    exact ⟨g, 0, rfl, c0, c1⟩
theorem new_pair (w : World) (x y : Value) (t : TypeId) : ∀ j u, [x, y][j]? = some u → (w.alloc (.cells #[x, y] t)).cell? ((⟨w.heap.size, 0, none⟩ : Addr).add j) = some u := by
  intro j u hj
  match j, hj with
  | 0, hj =>
    simp at hj; subst hj
    have := (Blk.new w t #[x, y]).cell 0
    simp [Addr.add, this]
  | 1, hj =>
    simp at hj; subst hj
    have := (Blk.new w t #[x, y]).cell 1
    simp [Addr.add, this]
/-- 'out = append(out, api.Pair{..})' -/
theorem wpList_appP {ops : Array Oper} {rest : List Oper} {o : Oper} {a : Act} {Q : Exit → Act → World → Prop} (hgd : o.guard = none) (s x : Operand)
    (ho : o.op = .call { callee := .builtin .append, args := #[s, x], argTypes := #[25, 25] })
    (X : World) (base : Nat) (v : Value) (l : List (Int × Int)) (y z : Int) (hown : OwnP X base v l) (hs : a.eval s = v) (hx : a.eval x = .slice (some ⟨X.heap.size, 0, none⟩) 1 1)
    (hlen : l.length ≤ 1000000) (hbase : base ≤ X.heap.size)
    (h : ∀ v' w', OwnP w' base v' (l ++ [(y, z)]) → Below base X w' → X.grownBy w' v.ownBlock → wpList Tryd.prog ops Q rest (a.put o.dst v') w') :
    wpList Tryd.prog ops Q (o :: rest) a (X.alloc (.cells #[.int .i64 y, .int .i64 z] 46)) := by
  obtain ⟨i0, hi, hz0, hz1, hz2⟩ := info_parts info_pair
  refine wpList_append_own _ hgd s x 25 ho base 46 i0 _ 2 16 Tryd.underlying25 hi hz0 hz1 hz2 rfl (by decide) v l.length _ hs (World.ownsRow.alloc hown _) ⟨X.heap.size, 0, none⟩ 1 1 [.int .i64 y, .int .i64 z] hx rfl (new_pair _ _ _ _)
    (by intro u hu; simp at hu; rcases hu with rfl | rfl <;> rfl) (by unfold maxLen; omega) (by omega) (by simp; omega) ?_
  intro v' w1 hown' hgrow _
  refine h v' w1 ?_ ?_ ?_
  · unfold OwnP; rw [List.length_append]; simp only [flatP, List.flatMap_append]; exact hown'
  · exact ((Below.refl base X).alloc hbase _).grown hgrow (by simp; omega) (fun k hk => ((World.ownsRow.alloc hown (.cells #[.int .i64 y, .int .i64 z] 46)).lt k hk).1)
  · exact ⟨hgrow.os, hgrow.tape, hgrow.output, Nat.le_trans (by simp) hgrow.size, fun k hk hne => (hgrow.block k (by simp; omega) hne).trans (Below.heap_alloc _ _ _ hk)⟩

theorem info_ints : (Tryd.prog.info? 22).map (fun i => (i.zero, i.size, i.bytes)) = some (some (.slice none 0 0), 1, 24) := by kernel_rfl
/-- the values are slices that read as the lists -/
def RLs (w : World) (xs : List Value) (ls : List (List Int)) : Prop := xs.length = ls.length ∧ ∀ k, k < ls.length → ∃ A c, xs[k]? = some (.slice A (ls.getD k []).length c) ∧ RI w A (ls.getD k [])
theorem RLs.nil (w : World) : RLs w [] [] := ⟨rfl, fun k hk => absurd hk (by simp)⟩
theorem RLs.below {w w' : World} {xs : List Value} {ls : List (List Int)} (h : RLs w xs ls) (hb : Below w.heap.size w w') : RLs w' xs ls :=
  ⟨h.1, fun k hk => by obtain ⟨A, c, h1, h2⟩ := h.2 k hk; exact ⟨A, c, h1, h2.below hb⟩⟩
theorem RLs.snoc {w : World} {xs : List Value} {ls : List (List Int)} {A : Option Addr} {l : List Int} {c : Nat} (h : RLs w xs ls) (hr : RI w A l) : RLs w (xs ++ [.slice A l.length c]) (ls ++ [l]) := by
  refine ⟨by simp [h.1], fun k hk => ?_⟩
  by_cases hk' : k < ls.length
  · obtain ⟨A', c', h1, h2⟩ := h.2 k hk'
    have e : (ls ++ [l]).getD k [] = ls.getD k [] := by simp only [List.getD]; rw [List.getElem?_append_left hk']
    rw [e]
    exact ⟨A', c', by rw [List.getElem?_append_left (by rw [h.1]; exact hk')]; exact h1, h2⟩
  · have hk2 : k = ls.length := by simp at hk; omega
    subst hk2
    have e : (ls ++ [l]).getD ls.length [] = l := by simp [List.getD]
    rw [e]
    exact ⟨A, c, by rw [← h.1]; simp, hr⟩
/-- the slice v, made by the call, holds the values (slices) -/
def OwnS (w : World) (base : Nat) (v : Value) (xs : List Value) : Prop := w.ownsRow base 22 1 v xs.length xs
theorem OwnS.nil (w : World) (base : Nat) : OwnS w base (.slice none 0 0) [] := World.ownsRow_nil w base _ _
/-- the slices that can be read from an address -/
def RS (w : World) (A : Option Addr) (ls : List (List Int)) : Prop :=
  ∀ k, k < ls.length → ∃ b o A' c', A = some ⟨b, o, none⟩ ∧ w.cell? ⟨b, o + k, none⟩ = some (.slice A' (ls.getD k []).length c') ∧ RI w A' (ls.getD k [])
theorem RS.below {w w' : World} {A : Option Addr} {ls : List (List Int)} (h : RS w A ls) (hb : Below w.heap.size w w') : RS w' A ls := by
  intro k hk
  obtain ⟨b, o, A', c', hA, hc, hr⟩ := h k hk
  exact ⟨b, o, A', c', hA, (hb.cell (p := ⟨b, o + k, none⟩) (lt_of_cell hc)).trans hc, hr.below hb⟩
theorem RS.at_ {w : World} {A : Option Addr} {ls : List (List Int)} (h : RS w A ls) {k : Nat} (hk : k < ls.length) :
    ∃ b o A' c', A = some ⟨b, o, none⟩ ∧ w.cell? ⟨b, o + k, none⟩ = some (.slice A' ls[k].length c') ∧ RI w A' ls[k] := by
  obtain ⟨b, o, A', c', hA, hc, hr⟩ := h k hk
  have e : ls.getD k [] = ls[k] := by simp [List.getD, hk]
  rw [e] at hc hr
  exact ⟨b, o, A', c', hA, hc, hr⟩
theorem OwnS.form {w : World} {b : Nat} {v : Value} {xs : List Value} {ls : List (List Int)} (h : OwnS w b v xs) (hl : RLs w xs ls) : ∃ A c, v = .slice A ls.length c ∧ RS w A ls ∧ (A = none → ls = []) := by
  have h' := h
  obtain ⟨h1, h2⟩ := h
  rcases h2 with ⟨rfl, hn⟩ | ⟨g, cap, cur, rfl, hg, r⟩
  · have : ls = [] := List.eq_nil_of_length_eq_zero (by rw [← hl.1]; exact hn)
    subst this
    exact ⟨none, 0, rfl, fun k hk => absurd hk (by simp), fun _ => rfl⟩
  · refine ⟨some ⟨g, 0, none⟩, cap, by rw [hl.1], fun k hk => ?_, fun e => by cases e⟩
    obtain ⟨A', c', hx, hr⟩ := hl.2 k hk
    have c0 := h'.cells (g := g) rfl _ _ hx
    rw [show (⟨g, 0, none⟩ : Addr).add k = ⟨g, 0 + k, none⟩ by unfold Addr.add; split <;> simp_all] at c0
    exact ⟨g, 0, A', c', rfl, c0, hr⟩
/-- 'out = append(out, set)' for a slice of slices -/
theorem wpList_appS {ops : Array Oper} {rest : List Oper} {o : Oper} {a : Act} {Q : Exit → Act → World → Prop} (hgd : o.guard = none) (s x : Operand)
    (ho : o.op = .call { callee := .builtin .append, args := #[s, x], argTypes := #[31, 31] })
    (X : World) (base : Nat) (v : Value) (xs : List Value) (A : Option Addr) (n c : Nat) (hown : OwnS X base v xs) (hs : a.eval s = v) (hx : a.eval x = .slice (some ⟨X.heap.size, 0, none⟩) 1 1)
    (hlen : xs.length ≤ 1000000) (hbase : base ≤ X.heap.size)
    (h : ∀ v' w', OwnS w' base v' (xs ++ [.slice A n c]) → Below base X w' → X.grownBy w' v.ownBlock → wpList Tryd.prog ops Q rest (a.put o.dst v') w') :
    wpList Tryd.prog ops Q (o :: rest) a (X.alloc (.cells #[.slice A n c] 22)) := by
  obtain ⟨i0, hi, hz0, hz1, hz2⟩ := info_parts info_ints
  refine wpList_append_own _ hgd s x 31 ho base 22 i0 _ 1 24 Tryd.underlying31 hi hz0 hz1 hz2 rfl (by decide) v xs.length _ hs (World.ownsRow.alloc hown _) ⟨X.heap.size, 0, none⟩ 1 1 [.slice A n c] hx rfl (new_cell _ _ _)
    (by intro u hu; simp at hu; subst hu; rfl) (by unfold maxLen; omega) (by omega) (by simp; omega) ?_
  intro v' w1 hown' hgrow _
  refine h v' w1 ?_ ?_ ?_
  · unfold OwnS; rw [List.length_append]; exact hown'
  · exact ((Below.refl base X).alloc hbase _).grown hgrow (by simp; omega) (fun k hk => ((World.ownsRow.alloc hown (.cells #[.slice A n c] 22)).lt k hk).1)
  · exact ⟨hgrow.os, hgrow.tape, hgrow.output, Nat.le_trans (by simp) hgrow.size, fun k hk hne => (hgrow.block k (by simp; omega) hne).trans (Below.heap_alloc _ _ _ hk)⟩
end Go.Proofs.YtiljbfeipfdmdaaDoor
