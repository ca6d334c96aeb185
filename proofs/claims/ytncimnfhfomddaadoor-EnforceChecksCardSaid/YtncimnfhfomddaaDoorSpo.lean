/- keep's SpoiltGraph. -/
import Derived.Test.YtncimnfhfomddaaDoorTxtZ
import Derived.Test.YtncimnfhfomddaaDoorRev
import Derived.Deep.DeepCutAuto
namespace Go.Proofs.YtncimnfhfomddaaDoor
open Go.ChangeShapes Go.WideShapes Go.ChangeAt Go.RowKit

set_option maxRecDepth 100000 in
/-- 'append(s, t...)' of pairs -/
theorem wpList_appPs {ops : Array Oper} {rest : List Oper} {o : Oper} {a : Act} {Q : Exit → Act → World → Prop} (hgd : o.guard = none) (s x : Operand)
    (ho : o.op = .call { callee := .builtin .append, args := #[s, x], argTypes := #[22, 22] })
    (X : World) (base : Nat) (v : Value) (l : List (Int × Int)) (B : Option Addr) (l2 : List (Int × Int)) (c : Nat) (hown : OwnP X base v l) (hr : RP X B l2) (hB : B = none → l2 = [] ∧ c = 0) (hs : a.eval s = v) (hx : a.eval x = .slice B l2.length c)
    (hlen : l.length + l2.length ≤ 1000000) (hbase : base ≤ X.heap.size)
    (h : ∀ v' w', OwnP w' base v' (l ++ l2) → Below base X w' → X.grownBy w' v.ownBlock → wpList Tryd.prog ops Q rest (a.put o.dst v') w') :
    wpList Tryd.prog ops Q (o :: rest) a X := by
  obtain ⟨i0, hi, hz0, hz1, hz2⟩ := info_parts info_pair
  cases B with
  | none =>
    obtain ⟨rfl, rfl⟩ := hB rfl
    refine wpList_append_own_none hgd s x 22 ho base 42 i0 2 Tryd.underlying22 hi v l.length _ hs hown hx (h v X ?_ (Below.refl _ _) (grownBy_refl _ _))
    rw [List.append_nil]; exact hown
  | some ad =>
    refine wpList_append_own _ hgd s x 22 ho base 42 i0 _ 2 16 Tryd.underlying22 hi hz0 hz1 hz2 rfl (by decide) v l.length _ hs hown ad l2.length c (flatP l2) hx (by rw [flatP_length]) (fun j u hu => ?_)
      (by intro u hu; unfold flatP at hu; obtain ⟨q, _, hq⟩ := List.mem_flatMap.1 hu; simp at hq; rcases hq with rfl | rfl <;> rfl) (by unfold maxLen; omega) (by omega) hbase ?_
    · have hj : j < l2.length * 2 := by have := (List.getElem?_eq_some_iff.1 hu).1; rw [flatP_length] at this; exact this
      obtain ⟨f0, f1⟩ := flatP_at l2 (j / 2) (by omega)
      obtain ⟨b, off, hA, hc, hd⟩ := hr (j / 2) (by omega)
      injection hA with hA; subst hA
      rw [show (⟨b, off, none⟩ : Addr).add j = ⟨b, off + j, none⟩ by unfold Addr.add; split <;> simp_all]
      rcases Nat.mod_two_eq_zero_or_one j with e | e
      · have ej : j / 2 * 2 = j := by omega
        rw [ej] at f0 hc
        rw [f0] at hu; injection hu with hu; rw [hc, hu]
      · have ej : j / 2 * 2 + 1 = j := by omega
        have ej2 : off + j / 2 * 2 + 1 = off + j := by omega
        rw [ej] at f1
        rw [ej2] at hd
        rw [f1] at hu; injection hu with hu; rw [hd, hu]
    · intro v' w1 hown' hgrow _
      refine h v' w1 ?_ ((Below.refl base X).grown hgrow hbase (fun k hk => (hown.lt k hk).1)) hgrow
      unfold OwnP
      have e : flatP (l ++ l2) = flatP l ++ flatP l2 := by unfold flatP; rw [List.flatMap_append]
      rw [List.length_append, e]; exact hown'

/-- '[]api.Pair{}' -/
theorem ownP_empty (w : World) : OwnP (w.alloc (.cells #[] 42)) w.heap.size (.slice (some ⟨w.heap.size, 0, none⟩) 0 0) [] :=
  World.ownsRow_made w #[] 0 (Nat.le_refl _) (by decide) (by simp)

theorem OwnP.apartG {w : World} {b g : Nat} {v : Value} {l : List (Int × Int)} {cs : Array Value} (h : OwnP w b v l) (k : Blk w g 24 cs) : some g ≠ v.ownBlock := by
  obtain ⟨_, h2⟩ := h
  rcases h2 with ⟨rfl, _⟩ | ⟨g', cap', cur', rfl, _, hg', _⟩
  · simp [Value.ownBlock]
  · intro e
    simp only [Value.ownBlock, Option.some.injEq] at e
    subst e
    unfold Blk at k
    rw [hg'] at k
    simp only [Option.some.injEq, Obj.cells.injEq] at k
    exact absurd k.2.1 (by decide)

/-- the call returns some graph, in new memory; the reader has gone on -/
def RetSp (p L : Nat) (w : World) : Ending → World → Prop := fun e w' => ∃ (N : Int) (l : List (Int × Int)) (A : Option Addr) (c : Nat), e = .returned (.agg #[.int .i64 N, .slice A l.length c]) ∧ l.length ≤ L + 1 ∧ RP w' A l ∧
  (∀ b o, A = some ⟨b, o, none⟩ → w.heap.size ≤ b) ∧ SrcOk w' p ∧ w.grownBy w' (some p)

theorem addr_inj {k k' : Nat} (h : (some ⟨k, 0, none⟩ : Option Addr) = some ⟨k', 0, none⟩) : k = k' := by injection h with h; injection h with h _ _
theorem flatP_set1 : ∀ (l : List (Int × Int)) (i : Nat) (x : Int), flatP (l.set i (x, (l.getD i (0, 0)).2)) = (flatP l).set (i * 2) (.int .i64 x)
  | [], i, x => by simp [flatP]
  | q :: l, 0, x => by simp [flatP]
  | q :: l, i + 1, x => by
    have ih := flatP_set1 l i x
    unfold flatP at ih ⊢
    rw [List.set_cons_succ, List.flatMap_cons, List.flatMap_cons, show (i + 1) * 2 = i * 2 + 2 by omega]
    simp only [List.cons_append, List.nil_append, List.set_cons_succ, List.getD_cons_succ]
    rw [ih]
theorem flatP_set2 : ∀ (l : List (Int × Int)) (i : Nat) (x : Int), flatP (l.set i ((l.getD i (0, 0)).1, x)) = (flatP l).set (i * 2 + 1) (.int .i64 x)
  | [], i, x => by simp [flatP]
  | q :: l, 0, x => by simp [flatP]
  | q :: l, i + 1, x => by
    have ih := flatP_set2 l i x
    unfold flatP at ih ⊢
    rw [List.set_cons_succ, List.flatMap_cons, List.flatMap_cons, show (i + 1) * 2 + 1 = (i * 2 + 1) + 2 by omega]
    simp only [List.cons_append, List.nil_append, List.set_cons_succ, List.getD_cons_succ]
    rw [ih]
/-- a store into the row of pairs -/
theorem OwnP.storeF {w : World} {b g c : Nat} {l l' : List (Int × Int)} (h : OwnP w b (.slice (some ⟨g, 0, none⟩) l.length c) l) {k : Nat} {x : Int} (hl : l'.length = l.length) (hf : flatP l' = (flatP l).set k (.int .i64 x)) :
    OwnP (w.setCell ⟨g, k, none⟩ (.int .i64 x)) b (.slice (some ⟨g, 0, none⟩) l.length c) l' := by
  obtain ⟨h1, h2⟩ := h
  refine ⟨by rw [flatP_length, hl], ?_⟩
  rcases h2 with ⟨e, _⟩ | ⟨g', cap, cur, e, hg, hh, hn, hcap, hs, ht⟩
  · cases e
  · injection e with e1 e2 e3
    injection e1 with e1
    injection e1 with e1 _ _
    subst e1 e3
    refine .inr ⟨g, c, cur.setIfInBounds k (.int .i64 x), by rw [hl], hg, ?_, by rw [hl]; exact hn, hcap, by simpa using hs, ?_⟩
    · simp [World.setCell, Array.getElem?_modify, hh]
    · rw [Array.toList_setIfInBounds, List.take_set, hf, hl, ht]
theorem OwnP.pos {w : World} {b : Nat} {A : Option Addr} {c : Nat} {l : List (Int × Int)} (h : OwnP w b (.slice A l.length c) l) (hl : 0 < l.length) :
    ∃ g, A = some ⟨g, 0, none⟩ ∧ b ≤ g ∧ g < w.heap.size ∧ ∀ i, w.frozen? ⟨g, i, none⟩ = false := by
  have h' := h
  obtain ⟨h1, h2⟩ := h
  rcases h2 with ⟨e, hn⟩ | ⟨g', cap, cur, e, hg, hh, hn, hcap, hs, ht⟩
  · omega
  · injection e with e1 e2 e3
    subst e1
    refine ⟨g', rfl, hg, (World.ownsRow.lt h' g' rfl).2, fun i => ?_⟩
    simp [World.frozen?, hh]

theorem OwnP.cells2 {w : World} {b g c : Nat} {l : List (Int × Int)} (h : OwnP w b (.slice (some ⟨g, 0, none⟩) l.length c) l) {k : Nat} (hk : k < l.length) : w.cell? ⟨g, k * 2, none⟩ = some (.int .i64 (l.getD k (0, 0)).1) ∧ w.cell? ⟨g, k * 2 + 1, none⟩ = some (.int .i64 (l.getD k (0, 0)).2) := by
  obtain ⟨A, c', e, hr, _⟩ := h.form
  injection e with e1 e2 e3
  subst e1
  obtain ⟨b', o, hA, hc, hd⟩ := hr k hk
  injection hA with hA
  injection hA with e1 e2
  subst e1 e2
  rw [Nat.zero_add] at hc hd
  exact ⟨hc, hd⟩
theorem OwnP.store2 {w : World} {b g c : Nat} {l : List (Int × Int)} (h : OwnP w b (.slice (some ⟨g, 0, none⟩) l.length c) l) (k : Nat) (x y : Int) :
    ∃ l', l'.length = l.length ∧ OwnP ((w.setCell ⟨g, k * 2, none⟩ (.int .i64 x)).setCell ⟨g, k * 2 + 1, none⟩ (.int .i64 y)) b (.slice (some ⟨g, 0, none⟩) l.length c) l' := by
  have h1 := h.storeF (k := k * 2) (x := x) (l' := l.set k (x, (l.getD k (0, 0)).2)) (by simp) (flatP_set1 l k x)
  have e : (l.set k (x, (l.getD k (0, 0)).2)).length = l.length := List.length_set ..
  generalize l.set k (x, (l.getD k (0, 0)).2) = l1 at h1 e
  rw [← e] at h1
  have h2 := h1.storeF (k := k * 2 + 1) (x := y) (l' := l1.set k ((l1.getD k (0, 0)).1, y)) (by simp) (flatP_set2 l1 k y)
  rw [e] at h2
  exact ⟨_, by rw [List.length_set]; exact e, h2⟩
/-- the state of SpoiltGraph behind its first region: the variable g, the result R, the reader p -/
structure SpS (p g R B : Nat) (N : Int) (v : Value) (w0 w : World) : Prop where
  src : SrcOk w p
  near : Near p w0.heap.size w0 w
  blk : Blk w g 24 #[.int .i64 N, v]
  res : Blk w R 24 #[.int .i64 0, .slice none 0 0]
  hp : p < w0.heap.size
  hR : w0.heap.size ≤ R
  hRB : R < B
  hBg : B ≤ g
  hB : B ≤ w.heap.size
namespace SpS
variable {p g R B : Nat} {N : Int} {v : Value} {w0 w w' : World}
theorem read (h : SpS p g R B N v w0 w) (hs : SrcOk w' p) (hg : w.grownBy w' (some p)) : SpS p g R B N v w0 w' :=
  { h with
    src := hs, near := h.near.trans (Near.of_grown hg h.near.size)
    blk := h.blk.grown hg (fun e => by injection e; have := h.hp; have := h.hR; have := h.hRB; have := h.hBg; omega)
    res := h.res.grown hg (fun e => by injection e; have := h.hp; have := h.hR; omega)
    hB := Nat.le_trans h.hB hg.size }
theorem below (h : SpS p g R B N v w0 w) (hb : Below w.heap.size w w') : SpS p g R B N v w0 w' :=
  { h with
    src := h.src.kept hb, near := h.near.trans (Near.of_below (hb.mono h.near.size))
    blk := h.blk.below hb h.blk.lt, res := h.res.below hb h.res.lt, hB := Nat.le_trans h.hB hb.size }
theorem append {v' : Value} {l : List (Int × Int)} (h : SpS p g R B N v w0 w) (ho : OwnP w B v' l) (hg : w.grownBy w' v'.ownBlock) (hb : Below B w w') : SpS p g R B N v w0 w' :=
  { h with
    src := h.src.append ho hg (by have := h.hp; have := h.hR; have := h.hRB; omega)
    near := h.near.trans (Near.of_below (hb.mono (by have := h.hR; have := h.hRB; omega)))
    blk := h.blk.grown hg (ho.apartG h.blk)
    res := h.res.append ho hg h.hRB
    hB := Nat.le_trans h.hB hb.size }
theorem store1 (h : SpS p g R B N v w0 w) (u : Value) : SpS p g R B N u w0 (w.setCell ⟨g, 1, none⟩ u) :=
  { h with
    src := h.src.other (grownBy_setCell w g 1 u) (fun k hk => by injection hk; have := h.hp; have := h.hR; have := h.hRB; have := h.hBg; omega)
    near := h.near.setCell (q := ⟨g, 1, none⟩) (by show w0.heap.size ≤ g; have := h.hR; have := h.hRB; have := h.hBg; omega) u
    blk := h.blk.set_ 1 u
    res := h.res.far (p := ⟨g, 1, none⟩) (by show R ≠ g; have := h.hRB; have := h.hBg; omega) u
    hB := by simp [World.setCell]; exact h.hB }
theorem store0 (h : SpS p g R B N v w0 w) (x : Int) : SpS p g R B x v w0 (w.setCell ⟨g, 0, none⟩ (.int .i64 x)) :=
  { h with
    src := h.src.other (grownBy_setCell w g 0 _) (fun k hk => by injection hk; have := h.hp; have := h.hR; have := h.hRB; have := h.hBg; omega)
    near := h.near.setCell (q := ⟨g, 0, none⟩) (by show w0.heap.size ≤ g; have := h.hR; have := h.hRB; have := h.hBg; omega) _
    blk := h.blk.set_ 0 _
    res := h.res.far (p := ⟨g, 0, none⟩) (by show R ≠ g; have := h.hRB; have := h.hBg; omega) _
    hB := by simp [World.setCell]; exact h.hB }
theorem put (h : SpS p g R B N v w0 w) {k i : Nat} (hk : B ≤ k) (hne : g ≠ k) (u : Value) : SpS p g R B N v w0 (w.setCell ⟨k, i, none⟩ u) :=
  { h with
    src := h.src.other (grownBy_setCell w k i u) (fun j hj => by injection hj; have := h.hp; have := h.hR; have := h.hRB; omega)
    near := h.near.setCell (q := ⟨k, i, none⟩) (by show w0.heap.size ≤ k; have := h.hR; have := h.hRB; omega) u
    blk := h.blk.far (p := ⟨k, i, none⟩) hne u
    res := h.res.far (p := ⟨k, i, none⟩) (by show R ≠ k; have := h.hRB; omega) u
    hB := by simp [World.setCell]; exact h.hB }
theorem apart (h : SpS p g R B N v w0 w) {k : Nat} {l : List (Int × Int)} {n c : Nat} (ho : OwnP w B (.slice (some ⟨k, 0, none⟩) n c) l) : g ≠ k := fun e => ho.apartG h.blk (by rw [e]; rfl)
/-- the end: the result is stored -/
theorem ends (h : SpS p g R B N v w0 w) {l : List (Int × Int)} (ho : OwnP w B v l) (L : Nat) (hl : l.length ≤ L + 1) :
    Blk ((w.setCell ⟨R, 0, none⟩ (.int .i64 N)).setCell ⟨R, 1, none⟩ v) R 24 #[.int .i64 N, v] ∧ RetSp p L w0 (.returned (.agg #[.int .i64 N, v])) ((w.setCell ⟨R, 0, none⟩ (.int .i64 N)).setCell ⟨R, 1, none⟩ v) := by
  have hR := h.hR; have hp := h.hp
  obtain ⟨A, c, rfl, hr, hA⟩ := ho.form
  have hloc : ∀ b o, A = some ⟨b, o, none⟩ → B ≤ b := fun b o e => by subst e; exact (World.ownsRow.lt ho b rfl).1
  refine ⟨(h.res.set_ 0 _).set_ 1 _, N, l, A, c, rfl, hl, hr.far2 (fun b o e _ => ?_) _ _, fun b o e => ?_, (h.src.other (grownBy_setCell w R 0 _) (fun k hk => ?_)).other (grownBy_setCell _ R 1 _) (fun k hk => ?_), ((h.near.setCell (q := ⟨R, 0, none⟩) hR _).setCell (q := ⟨R, 1, none⟩) hR _).grown⟩
  · have := hloc b o e; have := h.hRB; omega
  · have := hloc b o e; have := h.hRB; omega
  · injection hk; omega
  · injection hk; omega
end SpS

end Go.Proofs.YtncimnfhfomddaaDoor
