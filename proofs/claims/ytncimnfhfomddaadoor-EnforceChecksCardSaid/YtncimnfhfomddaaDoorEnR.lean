import Derived.Test.YtncimnfhfomddaaDoorEn1
/- Lists of lists of pairs. -/
namespace Go.Proofs.YtncimnfhfomddaaDoor
open Go.ChangeShapes Go.WideShapes Go.ChangeAt Go.RowKit

theorem Blk.threeE {w : World} {g : Nat} {t : TypeId} {x y z : Value} (h : Blk w g t #[x, y, z]) : w.cell? ⟨g, 0, none⟩ = some x ∧ w.cell? ⟨g, 1, none⟩ = some y ∧ w.cell? ⟨g, 2, none⟩ = some z ∧ w.frozen? ⟨g, 1, none⟩ = false ∧ w.frozen? ⟨g, 2, none⟩ = false :=
  ⟨h.cell 0, h.cell 1, h.cell 2, h.frozen 1, h.frozen 2⟩
theorem info_pairs : (Tryd.prog.info? 22).map (fun i => (i.zero, i.size, i.bytes)) = some (some (.slice none 0 0), 1, 24) := by kernel_rfl
/-- the slice v, made by the call, holds the values (slices) -/
def OwnTS (w : World) (base : Nat) (v : Value) (xs : List Value) : Prop := w.ownsRow base 22 1 v xs.length xs
theorem OwnTS.nil (w : World) (base : Nat) : OwnTS w base (.slice none 0 0) [] := World.ownsRow_nil w base _ _
/-- pairs in a block of the call's own that is typed as such -/
def RPt (w : World) (base : Nat) (A : Option Addr) (l : List (Int × Int)) : Prop := RP w A l ∧ ∀ b o, A = some ⟨b, o, none⟩ → base ≤ b ∧ ∃ cs, w.heap[b]? = some (.cells cs 42 (0, 0))
theorem RPt.kept {w w' : World} {base : Nat} {A : Option Addr} {l : List (Int × Int)} (h : RPt w base A l) (hk : ∀ b o, A = some ⟨b, o, none⟩ → w'.heap[b]? = w.heap[b]?) : RPt w' base A l := by
  refine ⟨fun k hk' => ?_, fun b o hA => ⟨(h.2 b o hA).1, ?_⟩⟩
  · obtain ⟨b, o, hA, h1, h2⟩ := h.1 k hk'
    have e := hk b o hA
    exact ⟨b, o, hA, by rw [World.cell?_of_block (w := w) (a := ⟨b, _, none⟩) e]; exact h1, by rw [World.cell?_of_block (w := w) (a := ⟨b, _, none⟩) e]; exact h2⟩
  · obtain ⟨cs, hc⟩ := (h.2 b o hA).2
    exact ⟨cs, (hk b o hA).trans hc⟩
theorem RPt.lt {w : World} {base : Nat} {A : Option Addr} {l : List (Int × Int)} (h : RPt w base A l) {b o : Nat} (hA : A = some ⟨b, o, none⟩) : b < w.heap.size := by
  obtain ⟨cs, hc⟩ := (h.2 b o hA).2
  exact (Array.getElem?_eq_some_iff.1 hc).1
theorem RPt.below {w w' : World} {base : Nat} {A : Option Addr} {l : List (Int × Int)} (h : RPt w base A l) (hb : Below w.heap.size w w') : RPt w' base A l := h.kept fun b _ hA => hb.block b (h.lt hA)
theorem RPt.of_own {w : World} {base c : Nat} {A : Option Addr} {l : List (Int × Int)} (h : OwnP w base (.slice A l.length c) l) : RPt w base A l := by
  obtain ⟨A', c', e, hr, _⟩ := h.form
  injection e with e1
  subst e1
  refine ⟨hr, fun b o hA => ?_⟩
  subst hA
  obtain ⟨_, h2⟩ := h
  rcases h2 with ⟨e, _⟩ | ⟨g, cap, cur, e, hg, hh, _⟩
  · cases e
  · injection e with e1; injection e1 with e1; injection e1 with e1; subst e1
    exact ⟨hg, cur, hh⟩
/-- the values are slices that hold the lists, in blocks of the call's own -/
def OwnTL (w : World) (base : Nat) (xs : List Value) (ls : List (List (Int × Int))) : Prop :=
  xs.length = ls.length ∧ ∀ k, k < ls.length → ∃ A c, xs[k]? = some (.slice A (ls.getD k []).length c) ∧ RPt w base A (ls.getD k [])
theorem OwnTL.nil (w : World) (base : Nat) : OwnTL w base [] [] := ⟨rfl, fun k hk => absurd hk (by simp)⟩
theorem OwnTL.below {w w' : World} {base : Nat} {xs : List Value} {ls : List (List (Int × Int))} (h : OwnTL w base xs ls) (hb : Below w.heap.size w w') : OwnTL w' base xs ls :=
  ⟨h.1, fun k hk => by obtain ⟨A, c, h1, h2⟩ := h.2 k hk; exact ⟨A, c, h1, h2.below hb⟩⟩
theorem OwnTL.snoc {w : World} {base : Nat} {xs : List Value} {ls : List (List (Int × Int))} {A : Option Addr} {l : List (Int × Int)} {c : Nat} (h : OwnTL w base xs ls) (hr : RPt w base A l) :
    OwnTL w base (xs ++ [.slice A l.length c]) (ls ++ [l]) := by
  refine ⟨by simp [h.1], fun k hk => ?_⟩
  by_cases hk' : k < ls.length
  · obtain ⟨A', c', h1, h2⟩ := h.2 k hk'
    have e : (ls ++ [l]).getD k [] = ls.getD k [] := by simp only [List.getD]; rw [List.getElem?_append_left hk']
    rw [e]
    exact ⟨A', c', by rw [List.getElem?_append_left (by rw [h.1]; exact hk')]; exact h1, h2⟩
  · have hk2 : k = ls.length := by simp at hk; omega
    subst hk2
    have e : (ls ++ [l]).getD ls.length [] = l := by simp [List.getD]
    rw [e]
    exact ⟨A, c, by rw [← h.1]; simp, hr⟩
/-- a slice of pairs and a slice of slices never lie in one block -/
theorem RPt.apart {w : World} {b b' : Nat} {A : Option Addr} {v' : Value} {l : List (Int × Int)} {xs : List Value} (h : RPt w b A l) (k : OwnTS w b' v' xs) {q o : Nat} (hA : A = some ⟨q, o, none⟩) : some q ≠ v'.ownBlock := by
  obtain ⟨_, cs, hc⟩ := h.2 q o hA
  obtain ⟨_, k2⟩ := k
  rcases k2 with ⟨rfl, _⟩ | ⟨g', cap', cur', rfl, _, hg', _⟩
  · simp [Value.ownBlock]
  · intro e
    simp only [Value.ownBlock, Option.some.injEq] at e
    subst e
    rw [hc] at hg'
    simp only [Option.some.injEq, Obj.cells.injEq] at hg'
    exact absurd hg'.2.1 (by decide)
theorem RPt.append {w w' : World} {b b' : Nat} {A : Option Addr} {v : Value} {l : List (Int × Int)} {ys : List Value} (h : RPt w b A l) (hs : OwnTS w b' v ys) (hg : w.grownBy w' v.ownBlock) : RPt w' b A l := h.kept fun q _ hA => hg.block q (h.lt hA) (h.apart hs hA)
theorem OwnTL.append {w w' : World} {base b' : Nat} {v : Value} {ys xs : List Value} {ls : List (List (Int × Int))} (h : OwnTL w base xs ls) (hs : OwnTS w b' v ys) (hg : w.grownBy w' v.ownBlock) : OwnTL w' base xs ls :=
  ⟨h.1, fun k hk => by obtain ⟨A, c, h1, h2⟩ := h.2 k hk; exact ⟨A, c, h1, h2.append hs hg⟩⟩
theorem own_oneP (w : World) (p : Int × Int) (b : Nat) (hb : b ≤ w.heap.size) : OwnP (w.alloc (.cells #[.int .i64 p.1, .int .i64 p.2] 42)) b (.slice (some ⟨w.heap.size, 0, none⟩) 1 1) [p] := World.ownsRow_lit (size := 2) w #[.int .i64 p.1, .int .i64 p.2] 1 hb (by decide) rfl
theorem sort_typed {w : World} {g n : Nat} {d : Array (Int × Int)} {os : Array Obj} {t : TypeId} {cs : Array Value} (h : w.heap[g]? = some (.cells cs t (0, 0))) : ∃ cs', (sortWorldK encP 2 w g 0 n d os).heap[g]? = some (.cells cs' t (0, 0)) := by
  have hlt := (Array.getElem?_eq_some_iff.1 h).1
  unfold sortWorldK
  rw [Go.Sort.heap_grow_old _ os (by rw [Go.Sort.size_putRowK]; exact hlt)]
  unfold Go.Sort.putRowK Go.Sort.putRow Go.Sort.mapBlock
  have h2 : (Go.Sort.ahead w n).heap[g]? = some (.cells cs t (0, 0)) := h
  refine ⟨Go.Sort.putCells id 0 (Go.Sort.flatK encP 2 d) cs, ?_⟩
  show ((Go.Sort.ahead w n).heap.modify g _)[g]? = _
  rw [Array.getElem?_modify, if_pos rfl, h2]
  rfl
/-- the sort of the call's own pairs -/
theorem sortT_any {w : World} {base c : Nat} {AV : Option Addr} {l : List (Int × Int)} (hown : OwnP w base (.slice AV l.length c) l) (hl : l.length ≤ 100000) :
    Calls Tryd.prog 56 #[.slice AV l.length c, .func (.func 57) #[] #[]] w (fun e w' => e = .returned (.tuple #[]) ∧ RPt w' base AV (srtP l) ∧ Below base w w') := by
  by_cases hz : l.length = 0
  · obtain rfl : l = [] := List.eq_nil_of_length_eq_zero hz
    refine (sortE_none AV c w).mono ?_
    rintro e X ⟨rfl, rfl⟩
    exact ⟨rfl, by rw [show srtP [] = [] by simp [srtP]]; exact RPt.of_own hown, Below.refl _ _⟩
  · obtain ⟨q, hAV, hgB, cur, hcur⟩ : ∃ q, AV = some ⟨q, 0, none⟩ ∧ base ≤ q ∧ ∃ cur, w.heap[q]? = some (.cells cur 42 (0, 0)) := by
      rcases hown.2 with ⟨e, h0⟩ | ⟨q, cap, cur, e, hg, hh, _⟩
      · omega
      · injection e with e1 _ _; exact ⟨q, e1, hg, cur, hh⟩
    subst hAV
    have hgw : q < w.heap.size := (World.ownsRow.lt hown q rfl).2
    have hH := holds_of_own (l := l) hown
    refine (sortE_any q c l w hH hgw hl).mono ?_
    rintro e X ⟨rfl, q2, os, hX⟩
    obtain ⟨hs1, hs2⟩ := sorted_world (n := q2) (d := (l.mergeSort fun x y => !(ltOf cmpP) y x).toArray) (os := os) hgw
    have hHX := holdsK_sortWorldK_c encP 2 w q 0 l.toArray (l.mergeSort fun x y => !(ltOf cmpP) y x).toArray q2 os hH hgw (by simp)
    have hty := sort_typed (n := q2) (d := (l.mergeSort fun x y => !(ltOf cmpP) y x).toArray) (os := os) hcur
    rw [← hX] at hs1 hs2 hHX hty
    exact ⟨rfl, ⟨rp_of_holds hHX, fun b o hA => by injection hA with hA; injection hA with hA; subst hA; exact ⟨hgB, hty⟩⟩, hs2 base hgB⟩
/-- the slices of pairs that can be read from an address -/
def RTo (w : World) (A : Option Addr) (ls : List (List (Int × Int))) : Prop :=
  ∀ k (hk : k < ls.length), ∃ b o A' c', A = some ⟨b, o, none⟩ ∧ w.cell? ⟨b, o + k, none⟩ = some (.slice A' ls[k].length c') ∧ RP w A' ls[k]
theorem RTo.below {w w' : World} {A : Option Addr} {ls : List (List (Int × Int))} (h : RTo w A ls) (hb : Below w.heap.size w w') : RTo w' A ls := by
  intro k hk
  obtain ⟨b, o, A', c', hA, hc, hr⟩ := h k hk
  exact ⟨b, o, A', c', hA, (hb.cell (p := ⟨b, o + k, none⟩) (lt_of_cell hc)).trans hc, hr.below hb⟩
theorem RTo.nil (w : World) (A : Option Addr) : RTo w A [] := fun k hk => absurd hk (by simp)
theorem OwnP.rp' {w : World} {b : Nat} {A : Option Addr} {l : List (Int × Int)} {c : Nat} (h : OwnP w b (.slice A l.length c) l) : RP w A l := by
  obtain ⟨A', c', e, hr, _⟩ := h.form
  injection e with e1; subst e1; exact hr
theorem OwnTS.forms {w : World} {b b' : Nat} {v : Value} {xs : List Value} {ls : List (List (Int × Int))} (h : OwnTS w b v xs) (hl : OwnTL w b' xs ls) : ∃ A c, v = .slice A ls.length c ∧ RTo w A ls ∧ (∀ q o, A = some ⟨q, o, none⟩ → b ≤ q) := by
  have h' := h
  obtain ⟨h1, h2⟩ := h
  rcases h2 with ⟨rfl, hn⟩ | ⟨g, cap, cur, rfl, hg, r⟩
  · have : ls = [] := List.eq_nil_of_length_eq_zero (by rw [← hl.1]; exact hn)
    subst this
    exact ⟨none, 0, rfl, RTo.nil _ _, fun _ _ h => by cases h⟩
  · refine ⟨some ⟨g, 0, none⟩, cap, by rw [hl.1], fun k hk => ?_, fun q o h => by injection h with h; injection h with h; omega⟩
    obtain ⟨A', c', hx, hr⟩ := hl.2 k hk
    have e : ls.getD k [] = ls[k] := by simp [List.getD, hk]
    rw [e] at hx hr
    have c0 := h'.cells (g := g) rfl _ _ hx
    rw [show (⟨g, 0, none⟩ : Addr).add k = ⟨g, 0 + k, none⟩ by unfold Addr.add; split <;> simp_all] at c0
    exact ⟨g, 0, A', c', rfl, c0, hr.1⟩
/-- 'out = append(out, l)' for a slice of lists of pairs -/
theorem wpList_appT {ops : Array Oper} {rest : List Oper} {o : Oper} {a : Act} {Q : Exit → Act → World → Prop} (hgd : o.guard = none) (s x : Operand)
    (ho : o.op = .call { callee := .builtin .append, args := #[s, x], argTypes := #[26, 26] })
    (X : World) (base : Nat) (v : Value) (xs : List Value) (A : Option Addr) (n c : Nat) (hown : OwnTS X base v xs) (hs : a.eval s = v) {gx : Nat} (hx : a.eval x = .slice (some ⟨gx, 0, none⟩) 1 1) (hgx : gx = X.heap.size)
    (hlen : xs.length ≤ 1000000) (hbase : base ≤ X.heap.size)
    (h : ∀ v' w', OwnTS w' base v' (xs ++ [.slice A n c]) → Below base X w' → X.grownBy w' v.ownBlock → wpList Tryd.prog ops Q rest (a.put o.dst v') w') :
    wpList Tryd.prog ops Q (o :: rest) a (X.alloc (.cells #[.slice A n c] 22)) := by
  subst hgx
  obtain ⟨i0, hi, hz0, hz1, hz2⟩ := info_parts info_pairs
  refine wpList_append_own _ hgd s x 26 ho base 22 i0 _ 1 24 Tryd.underlying26 hi hz0 hz1 hz2 rfl (by decide) v xs.length _ hs (World.ownsRow.alloc hown _) ⟨X.heap.size, 0, none⟩ 1 1 [.slice A n c] hx rfl (new_cell _ _ _)
    (by intro u hu; simp at hu; subst hu; rfl) (by unfold maxLen; omega) (by omega) (by simp; omega) ?_
  intro v' w1 hown' hgrow _
  refine h v' w1 ?_ ?_ ?_
  · unfold OwnTS; rw [List.length_append]; exact hown'
  · exact ((Below.refl base X).alloc hbase _).grown hgrow (by simp; omega) (fun k hk => ((World.ownsRow.alloc hown (.cells #[.slice A n c] 22)).lt k hk).1)
  · exact ⟨hgrow.os, hgrow.tape, hgrow.output, Nat.le_trans (by simp) hgrow.size, fun k hk hne => (hgrow.block k (by simp; omega) hne).trans (Below.heap_alloc _ _ _ hk)⟩
end Go.Proofs.YtncimnfhfomddaaDoor
