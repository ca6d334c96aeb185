/- keep's SpoiltGraph. -/
import Derived.Test.YtkflanjlnbdkmaaDoorTxtZ
import Derived.Test.YtkflanjlnbdkmaaDoorRev
import Derived.Deep.DeepCutAuto
namespace Go.Proofs.YtkflanjlnbdkmaaDoor
open Go.ChangeShapes Go.WideShapes Go.ChangeAt Go.RowKit

set_option maxRecDepth 100000 in
/-- 'append(s, t...)' of pairs -/
theorem wpList_appPs {ops : Array Oper} {rest : List Oper} {o : Oper} {a : Act} {Q : Exit → Act → World → Prop} (hgd : o.guard = none) (s x : Operand)
    (ho : o.op = .call { callee := .builtin .append, args := #[s, x], argTypes := #[22, 22] })
    (X : World) (base : Nat) (v : Value) (l : List (Int × Int)) (B : Option Addr) (l2 : List (Int × Int)) (c : Nat) (hown : OwnP X base v l) (hr : RP X B l2) (hB : B = none → l2 = [] ∧ c = 0) (hs : a.eval s = v) (hx : a.eval x = .slice B l2.length c)
    (hlen : l.length + l2.length ≤ 1000000) (hbase : base ≤ X.heap.size)
    (h : ∀ v' w', OwnP w' base v' (l ++ l2) → Below base X w' → X.grownBy w' v.ownBlock → wpList Tryd.prog ops Q rest (a.put o.dst v') w') :
    wpList Tryd.prog ops Q (o :: rest) a X := by
  obtain ⟨i0, hi, hz0, hz1, hz2⟩ := info_parts info_pair
  cases B with
  | none =>
    obtain ⟨rfl, rfl⟩ := hB rfl
    refine wpList_append_own_none hgd s x 22 ho base 43 i0 2 Tryd.underlying22 hi v l.length _ hs hown hx (h v X ?_ (Below.refl _ _) (grownBy_refl _ _))
    rw [List.append_nil]; exact hown
  | some ad =>
    refine wpList_append_own _ hgd s x 22 ho base 43 i0 _ 2 16 Tryd.underlying22 hi hz0 hz1 hz2 rfl (by decide) v l.length _ hs hown ad l2.length c (flatP l2) hx (by rw [flatP_length]) (fun j u hu => ?_)
      (by intro u hu; unfold flatP at hu; obtain ⟨q, _, hq⟩ := List.mem_flatMap.1 hu; simp at hq; rcases hq with rfl | rfl <;> rfl) (by unfold maxLen; omega) (by omega) hbase ?_
    · have hj : j < l2.length * 2 := by have := (List.getElem?_eq_some_iff.1 hu).1; rw [flatP_length] at this; exact this
      obtain ⟨f0, f1⟩ := flatP_at l2 (j / 2) (by omega)
      obtain ⟨b, off, hA, hc, hd⟩ := hr (j / 2) (by omega)
      injection hA with hA; subst hA
      rw [show (⟨b, off, none⟩ : Addr).add j = ⟨b, off + j, none⟩ by unfold Addr.add; split <;> simp_all]
      rcases Nat.mod_two_eq_zero_or_one j with e | e
      · have ej : j / 2 * 2 = j := by omega
        rw [ej] at f0 hc
        rw [f0] at hu; injection hu with hu; rw [hc, hu]
      · have ej : j / 2 * 2 + 1 = j := by omega
        have ej2 : off + j / 2 * 2 + 1 = off + j := by omega
        rw [ej] at f1
        rw [ej2] at hd
        rw [f1] at hu; injection hu with hu; rw [hd, hu]
    · intro v' w1 hown' hgrow _
      refine h v' w1 ?_ ((Below.refl base X).grown hgrow hbase (fun k hk => (hown.lt k hk).1)) hgrow
      unfold OwnP
      have e : flatP (l ++ l2) = flatP l ++ flatP l2 := by unfold flatP; rw [List.flatMap_append]
      rw [List.length_append, e]; exact hown'

/-- '[]api.Pair{}' -/
theorem ownP_empty (w : World) : OwnP (w.alloc (.cells #[] 43)) w.heap.size (.slice (some ⟨w.heap.size, 0, none⟩) 0 0) [] :=
  World.ownsRow_made w #[] 0 (Nat.le_refl _) (by decide) (by simp)

theorem OwnP.apartG {w : World} {b g : Nat} {v : Value} {l : List (Int × Int)} {cs : Array Value} (h : OwnP w b v l) (k : Blk w g 24 cs) : some g ≠ v.ownBlock := by
  obtain ⟨_, h2⟩ := h
  rcases h2 with ⟨rfl, _⟩ | ⟨g', cap', cur', rfl, _, hg', _⟩
  · simp [Value.ownBlock]
  · intro e
    simp only [Value.ownBlock, Option.some.injEq] at e
    subst e
    unfold Blk at k
    rw [hg'] at k
    simp only [Option.some.injEq, Obj.cells.injEq] at k
    exact absurd k.2.1 (by decide)

/-- the call returns some graph, in new memory; the reader has gone on -/
def RetSp (p L : Nat) (w : World) : Ending → World → Prop := fun e w' => ∃ (N : Int) (l : List (Int × Int)) (A : Option Addr) (c : Nat), e = .returned (.agg #[.int .i64 N, .slice A l.length c]) ∧ l.length ≤ L + 1 ∧ RP w' A l ∧
  (∀ b o, A = some ⟨b, o, none⟩ → w.heap.size ≤ b) ∧ SrcOk w' p ∧ w.grownBy w' (some p)

theorem addr_inj {k k' : Nat} (h : (some ⟨k, 0, none⟩ : Option Addr) = some ⟨k', 0, none⟩) : k = k' := by injection h with h; injection h with h _ _
theorem flatP_set1 : ∀ (l : List (Int × Int)) (i : Nat) (x : Int), flatP (l.set i (x, (l.getD i (0, 0)).2)) = (flatP l).set (i * 2) (.int .i64 x)
  | [], i, x => by simp [flatP]
  | q :: l, 0, x => by simp [flatP]
  | q :: l, i + 1, x => by
    have ih := flatP_set1 l i x
    unfold flatP at ih ⊢
    rw [List.set_cons_succ, List.flatMap_cons, List.flatMap_cons, show (i + 1) * 2 = i * 2 + 2 by omega]
    simp only [List.cons_append, List.nil_append, List.set_cons_succ, List.getD_cons_succ]
    rw [ih]
theorem flatP_set2 : ∀ (l : List (Int × Int)) (i : Nat) (x : Int), flatP (l.set i ((l.getD i (0, 0)).1, x)) = (flatP l).set (i * 2 + 1) (.int .i64 x)
  | [], i, x => by simp [flatP]
  | q :: l, 0, x => by simp [flatP]
  | q :: l, i + 1, x => by
    have ih := flatP_set2 l i x
    unfold flatP at ih ⊢
    rw [List.set_cons_succ, List.flatMap_cons, List.flatMap_cons, show (i + 1) * 2 + 1 = (i * 2 + 1) + 2 by omega]
    simp only [List.cons_append, List.nil_append, List.set_cons_succ, List.getD_cons_succ]
    rw [ih]
/-- a store into the row of pairs -/
theorem OwnP.storeF {w : World} {b g c : Nat} {l l' : List (Int × Int)} (h : OwnP w b (.slice (some ⟨g, 0, none⟩) l.length c) l) {k : Nat} {x : Int} (hl : l'.length = l.length) (hf : flatP l' = (flatP l).set k (.int .i64 x)) :
    OwnP (w.setCell ⟨g, k, none⟩ (.int .i64 x)) b (.slice (some ⟨g, 0, none⟩) l.length c) l' := by
  obtain ⟨h1, h2⟩ := h
  refine ⟨by rw [flatP_length, hl], ?_⟩
  rcases h2 with ⟨e, _⟩ | ⟨g', cap, cur, e, hg, hh, hn, hcap, hs, ht⟩
  · cases e
  · injection e with e1 e2 e3
    injection e1 with e1
    injection e1 with e1 _ _
    subst e1 e3
    refine .inr ⟨g, c, cur.setIfInBounds k (.int .i64 x), by rw [hl], hg, ?_, by rw [hl]; exact hn, hcap, by simpa using hs, ?_⟩
    · simp [World.setCell, Array.getElem?_modify, hh]
    · rw [Array.toList_setIfInBounds, List.take_set, hf, hl, ht]
theorem OwnP.pos {w : World} {b : Nat} {A : Option Addr} {c : Nat} {l : List (Int × Int)} (h : OwnP w b (.slice A l.length c) l) (hl : 0 < l.length) :
    ∃ g, A = some ⟨g, 0, none⟩ ∧ b ≤ g ∧ g < w.heap.size ∧ ∀ i, w.frozen? ⟨g, i, none⟩ = false := by
  have h' := h
  obtain ⟨h1, h2⟩ := h
  rcases h2 with ⟨e, hn⟩ | ⟨g', cap, cur, e, hg, hh, hn, hcap, hs, ht⟩
  · omega
  · injection e with e1 e2 e3
    subst e1
    refine ⟨g', rfl, hg, (World.ownsRow.lt h' g' rfl).2, fun i => ?_⟩
    simp [World.frozen?, hh]

theorem OwnP.cells2 {w : World} {b g c : Nat} {l : List (Int × Int)} (h : OwnP w b (.slice (some ⟨g, 0, none⟩) l.length c) l) {k : Nat} (hk : k < l.length) : w.cell? ⟨g, k * 2, none⟩ = some (.int .i64 (l.getD k (0, 0)).1) ∧ w.cell? ⟨g, k * 2 + 1, none⟩ = some (.int .i64 (l.getD k (0, 0)).2) := by
  obtain ⟨A, c', e, hr, _⟩ := h.form
  injection e with e1 e2 e3
  subst e1
  obtain ⟨b', o, hA, hc, hd⟩ := hr k hk
  injection hA with hA
  injection hA with e1 e2
  subst e1 e2
  rw [Nat.zero_add] at hc hd
  exact ⟨hc, hd⟩
theorem OwnP.store2 {w : World} {b g c : Nat} {l : List (Int × Int)} (h : OwnP w b (.slice (some ⟨g, 0, none⟩) l.length c) l) (k : Nat) (x y : Int) :
    ∃ l', l'.length = l.length ∧ OwnP ((w.setCell ⟨g, k * 2, none⟩ (.int .i64 x)).setCell ⟨g, k * 2 + 1, none⟩ (.int .i64 y)) b (.slice (some ⟨g, 0, none⟩) l.length c) l' := by
  have h1 := h.storeF (k := k * 2) (x := x) (l' := l.set k (x, (l.getD k (0, 0)).2)) (by simp) (flatP_set1 l k x)
  have e : (l.set k (x, (l.getD k (0, 0)).2)).length = l.length := List.length_set ..
  generalize l.set k (x, (l.getD k (0, 0)).2) = l1 at h1 e
  rw [← e] at h1
  have h2 := h1.storeF (k := k * 2 + 1) (x := y) (l' := l1.set k ((l1.getD k (0, 0)).1, y)) (by simp) (flatP_set2 l1 k y)
  rw [e] at h2
  exact ⟨_, by rw [List.length_set]; exact e, h2⟩
/-- the state of SpoiltGraph behind its first region: the variable g, the result R, the reader p -/
structure SpS (p g R B : Nat) (N : Int) (v : Value) (w0 w : World) : Prop where
  src : SrcOk w p
  near : Near p w0.heap.size w0 w
  blk : Blk w g 24 #[.int .i64 N, v]
  res : Blk w R 24 #[.int .i64 0, .slice none 0 0]
  hp : p < w0.heap.size
  hR : w0.heap.size ≤ R
  hRB : R < B
  hBg : B ≤ g
  hB : B ≤ w.heap.size
namespace SpS
variable {p g R B : Nat} {N : Int} {v : Value} {w0 w w' : World}
theorem read (h : SpS p g R B N v w0 w) (hs : SrcOk w' p) (hg : w.grownBy w' (some p)) : SpS p g R B N v w0 w' :=
  { h with
    src := hs, near := h.near.trans (Near.of_grown hg h.near.size)
    blk := h.blk.grown hg (fun e => by injection e; have := h.hp; have := h.hR; have := h.hRB; have := h.hBg; omega)
    res := h.res.grown hg (fun e => by injection e; have := h.hp; have := h.hR; omega)
    hB := Nat.le_trans h.hB hg.size }
theorem below (h : SpS p g R B N v w0 w) (hb : Below w.heap.size w w') : SpS p g R B N v w0 w' :=
  { h with
    src := h.src.kept hb, near := h.near.trans (Near.of_below (hb.mono h.near.size))
    blk := h.blk.below hb h.blk.lt, res := h.res.below hb h.res.lt, hB := Nat.le_trans h.hB hb.size }
theorem append {v' : Value} {l : List (Int × Int)} (h : SpS p g R B N v w0 w) (ho : OwnP w B v' l) (hg : w.grownBy w' v'.ownBlock) (hb : Below B w w') : SpS p g R B N v w0 w' :=
  { h with
    src := h.src.append ho hg (by have := h.hp; have := h.hR; have := h.hRB; omega)
    near := h.near.trans (Near.of_below (hb.mono (by have := h.hR; have := h.hRB; omega)))
    blk := h.blk.grown hg (ho.apartG h.blk)
    res := h.res.append ho hg h.hRB
    hB := Nat.le_trans h.hB hb.size }
theorem store1 (h : SpS p g R B N v w0 w) (u : Value) : SpS p g R B N u w0 (w.setCell ⟨g, 1, none⟩ u) :=
  { h with
    src := h.src.other (grownBy_setCell w g 1 u) (fun k hk => by injection hk; have := h.hp; have := h.hR; have := h.hRB; have := h.hBg; omega)
    near := h.near.setCell (q := ⟨g, 1, none⟩) (by show w0.heap.size ≤ g; have := h.hR; have := h.hRB; have := h.hBg; omega) u
    blk := h.blk.set_ 1 u
    res := h.res.far (p := ⟨g, 1, none⟩) (by show R ≠ g; have := h.hRB; have := h.hBg; omega) u
    hB := by simp [World.setCell]; exact h.hB }
theorem store0 (h : SpS p g R B N v w0 w) (x : Int) : SpS p g R B x v w0 (w.setCell ⟨g, 0, none⟩ (.int .i64 x)) :=
  { h with
    src := h.src.other (grownBy_setCell w g 0 _) (fun k hk => by injection hk; have := h.hp; have := h.hR; have := h.hRB; have := h.hBg; omega)
    near := h.near.setCell (q := ⟨g, 0, none⟩) (by show w0.heap.size ≤ g; have := h.hR; have := h.hRB; have := h.hBg; omega) _
    blk := h.blk.set_ 0 _
    res := h.res.far (p := ⟨g, 0, none⟩) (by show R ≠ g; have := h.hRB; have := h.hBg; omega) _
    hB := by simp [World.setCell]; exact h.hB }
theorem put (h : SpS p g R B N v w0 w) {k i : Nat} (hk : B ≤ k) (hne : g ≠ k) (u : Value) : SpS p g R B N v w0 (w.setCell ⟨k, i, none⟩ u) :=
  { h with
    src := h.src.other (grownBy_setCell w k i u) (fun j hj => by injection hj; have := h.hp; have := h.hR; have := h.hRB; omega)
    near := h.near.setCell (q := ⟨k, i, none⟩) (by show w0.heap.size ≤ k; have := h.hR; have := h.hRB; omega) u
    blk := h.blk.far (p := ⟨k, i, none⟩) hne u
    res := h.res.far (p := ⟨k, i, none⟩) (by show R ≠ k; have := h.hRB; omega) u
    hB := by simp [World.setCell]; exact h.hB }
theorem apart (h : SpS p g R B N v w0 w) {k : Nat} {l : List (Int × Int)} {n c : Nat} (ho : OwnP w B (.slice (some ⟨k, 0, none⟩) n c) l) : g ≠ k := fun e => ho.apartG h.blk (by rw [e]; rfl)
/-- the end: the result is stored -/
theorem ends (h : SpS p g R B N v w0 w) {l : List (Int × Int)} (ho : OwnP w B v l) (L : Nat) (hl : l.length ≤ L + 1) :
    Blk ((w.setCell ⟨R, 0, none⟩ (.int .i64 N)).setCell ⟨R, 1, none⟩ v) R 24 #[.int .i64 N, v] ∧ RetSp p L w0 (.returned (.agg #[.int .i64 N, v])) ((w.setCell ⟨R, 0, none⟩ (.int .i64 N)).setCell ⟨R, 1, none⟩ v) := by
  have hR := h.hR; have hp := h.hp
  obtain ⟨A, c, rfl, hr, hA⟩ := ho.form
  have hloc : ∀ b o, A = some ⟨b, o, none⟩ → B ≤ b := fun b o e => by subst e; exact (World.ownsRow.lt ho b rfl).1
  refine ⟨(h.res.set_ 0 _).set_ 1 _, N, l, A, c, rfl, hl, hr.far2 (fun b o e _ => ?_) _ _, fun b o e => ?_, (h.src.other (grownBy_setCell w R 0 _) (fun k hk => ?_)).other (grownBy_setCell _ R 1 _) (fun k hk => ?_), ((h.near.setCell (q := ⟨R, 0, none⟩) hR _).setCell (q := ⟨R, 1, none⟩) hR _).grown⟩
  · have := hloc b o e; have := h.hRB; omega
  · have := hloc b o e; have := h.hRB; omega
  · injection hk; omega
  · injection hk; omega
end SpS

set_option maxRecDepth 100000 in
set_option maxHeartbeats 8000000 in
theorem spoilt_any (p : Nat) (A : Option Addr) (N : Int) (l : List (Int × Int)) (c : Nat) (w : World) (h : SrcOk w p) (hr : RP w A l) (hA : A = none → l = [] ∧ c = 0) (hl : l.length ≤ 100000) :
    Calls Tryd.prog 13 #[.pointer (some ⟨p, 0, none⟩), .agg #[.int .i64 N, .slice A l.length c]] w (RetSp p l.length w) := by
  have hpl := h.lt
  go_enter Tryd.func13, Tryd.ntmps13
  go_upto_region 1 with fail
  obtain ⟨W0, hW, k0, kr0, hb0, hlt0⟩ := boxed2 w 24 24 (.int .i64 N) (.slice A l.length c) (.int .i64 0) (.slice none 0 0)
  rw [hW]
  have hr0 := hr.below hb0
  have hs0 := h.kept hb0
  have hwW : w.heap.size + 2 = W0.heap.size := by rw [← hW]; simp
  clear hW hr h
  obtain ⟨c0, c1, _, _⟩ := k0.two
  go_cut [5] (fun s5 wx => ∃ g5 v, s5 = .pointer (some ⟨g5, 0, none⟩) ∧ Blk wx g5 24 #[.int .i64 N, v] ∧ OwnP wx W0.heap.size v l ∧ W0.heap.size ≤ g5 ∧ Below W0.heap.size W0 wx)
  case first =>
    have hstore : ∀ (w1 : World) (g5 : Nat) (v : Value), OwnP w1 W0.heap.size v l → Blk w1 g5 24 #[.int .i64 0, .slice none 0 0] → W0.heap.size ≤ g5 → Below W0.heap.size W0 w1 →
        Blk ((w1.setCell ⟨g5, 0, none⟩ (.int .i64 N)).setCell ⟨g5, 1, none⟩ v) g5 24 #[.int .i64 N, v] ∧ OwnP ((w1.setCell ⟨g5, 0, none⟩ (.int .i64 N)).setCell ⟨g5, 1, none⟩ v) W0.heap.size v l ∧ Below W0.heap.size W0 ((w1.setCell ⟨g5, 0, none⟩ (.int .i64 N)).setCell ⟨g5, 1, none⟩ v) := fun w1 g5 v ho hk hg hb => by
      have hne := ho.apartG hk
      refine ⟨(hk.set_ 0 _).set_ 1 _, ?_, (hb.setCell (p := ⟨g5, 0, none⟩) hg _).setCell (p := ⟨g5, 1, none⟩) hg _⟩
      exact World.ownsRow.kept (World.ownsRow.kept ho (grownBy_setCell w1 g5 0 _) (.inr fun e => hne e.symm)) (grownBy_setCell _ g5 1 _) (.inr fun e => hne e.symm)
    refine wp_region_tree [2, 5, 7, 8] (fun w' => Below W0.heap.size W0 w') (fun _ => True) 9 [0, 1, 2, 3, 4, 5, 6, 7, 8] (by rfl) (by decide) (by kernel_rfl) (by kernel_rfl) (Below.refl _ _).drew trivial ?_
    refine TxtT.pure 0 (by rfl) (by rw [List.getElem?_toArray]; rfl) (by rfl) (by kernel_rfl) (by rfl) ?_; apply Exists.intro; refine ⟨fun w1 hS1 => ?_, ?_⟩; (focus (skip; go_simp; with_reducible rfl))
    rw [show List.erase [0, 1, 2, 3, 4, 5, 6, 7, 8] 0 = [1, 2, 3, 4, 5, 6, 7, 8] from rfl]; simp only [Act.put, List.setIfInBounds_toArray, List.set_cons_zero, List.set_cons_succ]
    refine TxtT.pure 1 (by rfl) (by rw [List.getElem?_toArray]; rfl) (by rfl) (by kernel_rfl) (by rfl) ?_; apply Exists.intro; refine ⟨fun w1 hS1 => ?_, ?_⟩; (focus ((have g0 := (hS1.cell (lt_of_cell c0)).trans c0); go_simp; with_reducible rfl))
    rw [show List.erase [1, 2, 3, 4, 5, 6, 7, 8] 1 = [2, 3, 4, 5, 6, 7, 8] from rfl]; simp only [Act.put, List.setIfInBounds_toArray, List.set_cons_zero, List.set_cons_succ]
    refine TxtT.pure 3 (by rfl) (by rw [List.getElem?_toArray]; rfl) (by rfl) (by kernel_rfl) (by rfl) ?_; apply Exists.intro; refine ⟨fun w1 hS1 => ?_, ?_⟩; (focus (skip; go_simp; with_reducible rfl))
    rw [show List.erase [2, 3, 4, 5, 6, 7, 8] 3 = [2, 4, 5, 6, 7, 8] from rfl]; simp only [Act.put, List.setIfInBounds_toArray, List.set_cons_zero, List.set_cons_succ]
    refine TxtT.pure 4 (by rfl) (by rw [List.getElem?_toArray]; rfl) (by rfl) (by kernel_rfl) (by rfl) ?_; apply Exists.intro; refine ⟨fun w1 hS1 => ?_, ?_⟩; (focus ((have g1 := (hS1.cell (lt_of_cell c1)).trans c1); go_simp; with_reducible rfl))
    rw [show List.erase [2, 4, 5, 6, 7, 8] 4 = [2, 5, 6, 7, 8] from rfl]; simp only [Act.put, List.setIfInBounds_toArray, List.set_cons_zero, List.set_cons_succ]
    refine TxtT.two 2 7 (by kernel_rfl) (by rw [List.getElem?_toArray]; rfl) (by rw [List.getElem?_toArray]; rfl) (by rfl) (by rfl) (by rfl) (by rfl) (fun v => ∃ g, v = Value.slice (some ⟨g, 0, none⟩) 0 0) (fun v w' => OwnP w' W0.heap.size v []) (fun v => ∃ g, v = Value.pointer (some ⟨g, 0, none⟩)) (fun v w' => ∃ g, v = Value.pointer (some ⟨g, 0, none⟩) ∧ Blk w' g 24 #[.int .i64 0, .slice none 0 0] ∧ W0.heap.size ≤ g) (fun w1 hS1 hJ1 => ?_) (fun w1 hS1 hJ1 => ?_) ?_ ?_
    · exact Eff.value (w' := w1.alloc (.cells #[] 43)) (v := .slice (some ⟨w1.heap.size, 0, none⟩) 0 0) (by go_simp) ⟨hS1.trans ((newB _ _).mono hS1.size), ⟨_, rfl⟩, ownsRow_mono (ownP_empty w1) hS1.size⟩
    · exact Eff.value (w' := w1.alloc (.cells #[.int .i64 0, .slice none 0 0] 24)) (v := .pointer (some ⟨w1.heap.size, 0, none⟩)) (by go_simp) ⟨hS1.trans ((newB _ _).mono hS1.size), ⟨_, rfl⟩, _, rfl, Blk.new _ _ _, hS1.size⟩
    · rintro v ⟨g9, rfl⟩
      rw [show List.erase [2, 5, 6, 7, 8] 2 = [5, 6, 7, 8] from rfl]; simp only [Act.put, List.setIfInBounds_toArray, List.set_cons_zero, List.set_cons_succ]
      refine TxtT.two 5 7 (by kernel_rfl) (by rw [List.getElem?_toArray]; rfl) (by rw [List.getElem?_toArray]; rfl) (by rfl) (by rfl) (by rfl) (by rfl) (fun v => ∃ A' c', v = Value.slice A' l.length c') (fun v w' => OwnP w' W0.heap.size v l) (fun v => ∃ g, v = Value.pointer (some ⟨g, 0, none⟩)) (fun v w' => OwnP w' W0.heap.size (.slice (some ⟨g9, 0, none⟩) 0 0) [] ∧ ∃ g, v = Value.pointer (some ⟨g, 0, none⟩) ∧ Blk w' g 24 #[.int .i64 0, .slice none 0 0] ∧ W0.heap.size ≤ g) (fun w1 hS1 hJ1 => ?_) (fun w1 hS1 hJ1 => ?_) ?_ ?_
      · skip
        refine Eff.of_list (ops := #[]) (by rfl) ?_
        refine wpList_appPs (by rfl) _ _ (by rfl) w1 W0.heap.size _ [] A l c hJ1 (hr0.below hS1) hA (by rfl) (by rfl) (by simp; omega) hS1.size ?_
        intro v' w' ho hb hg
        rw [List.nil_append] at ho
        obtain ⟨A', c', e', _, _⟩ := ho.form
        exact ⟨rfl, v', rfl, hS1.trans hb, ⟨A', c', e'⟩, ho⟩
      · skip
        exact Eff.value (w' := w1.alloc (.cells #[.int .i64 0, .slice none 0 0] 24)) (v := .pointer (some ⟨w1.heap.size, 0, none⟩)) (by go_simp) ⟨hS1.trans ((newB _ _).mono hS1.size), ⟨_, rfl⟩, ownsRow_below hJ1 (newB _ _), _, rfl, Blk.new _ _ _, hS1.size⟩
      · rintro v ⟨A2, c2, rfl⟩
        rw [show List.erase [5, 6, 7, 8] 5 = [6, 7, 8] from rfl]; simp only [Act.put, List.setIfInBounds_toArray, List.set_cons_zero, List.set_cons_succ]
        refine TxtT.pure 6 (by rfl) (by rw [List.getElem?_toArray]; rfl) (by rfl) (by kernel_rfl) (by rfl) ?_; apply Exists.intro; refine ⟨fun w1 hS1 => ?_, ?_⟩; (focus (skip; go_simp; with_reducible rfl))
        rw [show List.erase [6, 7, 8] 6 = [7, 8] from rfl]; simp only [Act.put, List.setIfInBounds_toArray, List.set_cons_zero, List.set_cons_succ]
        refine TxtT.one 7 (by kernel_rfl) (by rw [List.getElem?_toArray]; rfl) (by rfl) (by rfl) (fun v => ∃ g, v = Value.pointer (some ⟨g, 0, none⟩)) (fun v w' => OwnP w' W0.heap.size (.slice A2 l.length c2) l ∧ ∃ g, v = Value.pointer (some ⟨g, 0, none⟩) ∧ Blk w' g 24 #[.int .i64 0, .slice none 0 0] ∧ W0.heap.size ≤ g) (fun w1 hS1 hJ1 => ?_) ?_
        · skip
          exact Eff.value (w' := w1.alloc (.cells #[.int .i64 0, .slice none 0 0] 24)) (v := .pointer (some ⟨w1.heap.size, 0, none⟩)) (by go_simp) ⟨hS1.trans ((newB _ _).mono hS1.size), ⟨_, rfl⟩, ownsRow_below hJ1 (newB _ _), _, rfl, Blk.new _ _ _, hS1.size⟩
        rintro v ⟨g5, rfl⟩
        rw [show List.erase [7, 8] 7 = [8] from rfl]; simp only [Act.put, List.setIfInBounds_toArray, List.set_cons_zero, List.set_cons_succ]
        refine TxtT.one 8 (by kernel_rfl) (by rw [List.getElem?_toArray]; rfl) (by rfl) (by rfl) (fun _ => True) (fun _ w' => Blk w' g5 24 #[.int .i64 N, .slice A2 l.length c2] ∧ OwnP w' W0.heap.size (.slice A2 l.length c2) l ∧ W0.heap.size ≤ g5) (fun w1 hS1 hJ1 => ?_) ?_
        · obtain ⟨ho, g, hg, hk, hle⟩ := hJ1
          injection hg with hg; injection hg with hg; injection hg with hg _ _; subst hg
          obtain ⟨f0, f1, f2, f3⟩ := hk.two
          obtain ⟨h1, h2, h3⟩ := hstore w1 g5 (.slice A2 l.length c2) ho hk hle hS1
          exact Eff.skip (w' := (w1.setCell ⟨g5, 0, none⟩ (.int .i64 N)).setCell ⟨g5, 1, none⟩ (.slice A2 l.length c2)) (by go_simp) ⟨h3, trivial, h1, h2, hle⟩
        rintro v8 _
        rw [show List.erase [8] 8 = [] from rfl]; simp only [Act.put]
        refine ⟨rfl, fun W1 hS hJ => ?_⟩
        obtain ⟨h1, h2, h3⟩ := hJ
        go_wp2_with fail
        go_meet
        exact ⟨g5, _, rfl, h1, h2, h3, hS⟩
      · rintro v ⟨g5, rfl⟩
        rw [show List.erase [5, 6, 7, 8] 7 = [5, 6, 8] from rfl]; simp only [Act.put, List.setIfInBounds_toArray, List.set_cons_zero, List.set_cons_succ]
        refine TxtT.one 5 (by kernel_rfl) (by rw [List.getElem?_toArray]; rfl) (by rfl) (by rfl) (fun v => ∃ A' c', v = Value.slice A' l.length c') (fun v w' => OwnP w' W0.heap.size v l ∧ ∃ g, Value.pointer (some ⟨g5, 0, none⟩) = Value.pointer (some ⟨g, 0, none⟩) ∧ Blk w' g 24 #[.int .i64 0, .slice none 0 0] ∧ W0.heap.size ≤ g) (fun w1 hS1 hJ1 => ?_) ?_
        · obtain ⟨ho9, g, hg0, hk, hle⟩ := hJ1
          refine Eff.of_list (ops := #[]) (by rfl) ?_
          refine wpList_appPs (by rfl) _ _ (by rfl) w1 W0.heap.size _ [] A l c ho9 (hr0.below hS1) hA (by rfl) (by rfl) (by simp; omega) hS1.size ?_
          intro v' w' ho hb hg
          rw [List.nil_append] at ho
          obtain ⟨A', c', e', _, _⟩ := ho.form
          exact ⟨rfl, v', rfl, hS1.trans hb, ⟨A', c', e'⟩, ho, g, hg0, hk.grown hg (ho9.apartG hk), hle⟩
        rintro v ⟨A2, c2, rfl⟩
        rw [show List.erase [5, 6, 8] 5 = [6, 8] from rfl]; simp only [Act.put, List.setIfInBounds_toArray, List.set_cons_zero, List.set_cons_succ]
        refine TxtT.pure 6 (by rfl) (by rw [List.getElem?_toArray]; rfl) (by rfl) (by kernel_rfl) (by rfl) ?_; apply Exists.intro; refine ⟨fun w1 hS1 => ?_, ?_⟩; (focus (skip; go_simp; with_reducible rfl))
        rw [show List.erase [6, 8] 6 = [8] from rfl]; simp only [Act.put, List.setIfInBounds_toArray, List.set_cons_zero, List.set_cons_succ]
        refine TxtT.one 8 (by kernel_rfl) (by rw [List.getElem?_toArray]; rfl) (by rfl) (by rfl) (fun _ => True) (fun _ w' => Blk w' g5 24 #[.int .i64 N, .slice A2 l.length c2] ∧ OwnP w' W0.heap.size (.slice A2 l.length c2) l ∧ W0.heap.size ≤ g5) (fun w1 hS1 hJ1 => ?_) ?_
        · obtain ⟨ho, g, hg, hk, hle⟩ := hJ1
          injection hg with hg; injection hg with hg; injection hg with hg _ _; subst hg
          obtain ⟨f0, f1, f2, f3⟩ := hk.two
          obtain ⟨h1, h2, h3⟩ := hstore w1 g5 (.slice A2 l.length c2) ho hk hle hS1
          exact Eff.skip (w' := (w1.setCell ⟨g5, 0, none⟩ (.int .i64 N)).setCell ⟨g5, 1, none⟩ (.slice A2 l.length c2)) (by go_simp) ⟨h3, trivial, h1, h2, hle⟩
        rintro v8 _
        rw [show List.erase [8] 8 = [] from rfl]; simp only [Act.put]
        refine ⟨rfl, fun W1 hS hJ => ?_⟩
        obtain ⟨h1, h2, h3⟩ := hJ
        go_wp2_with fail
        go_meet
        exact ⟨g5, _, rfl, h1, h2, h3, hS⟩
    · rintro v ⟨g5, rfl⟩
      rw [show List.erase [2, 5, 6, 7, 8] 7 = [2, 5, 6, 8] from rfl]; simp only [Act.put, List.setIfInBounds_toArray, List.set_cons_zero, List.set_cons_succ]
      refine TxtT.one 2 (by kernel_rfl) (by rw [List.getElem?_toArray]; rfl) (by rfl) (by rfl) (fun v => ∃ g, v = Value.slice (some ⟨g, 0, none⟩) 0 0) (fun v w' => OwnP w' W0.heap.size v [] ∧ ∃ g, Value.pointer (some ⟨g5, 0, none⟩) = Value.pointer (some ⟨g, 0, none⟩) ∧ Blk w' g 24 #[.int .i64 0, .slice none 0 0] ∧ W0.heap.size ≤ g) (fun w1 hS1 hJ1 => ?_) ?_
      · obtain ⟨g, hg0, hk, hle⟩ := hJ1
        exact Eff.value (w' := w1.alloc (.cells #[] 43)) (v := .slice (some ⟨w1.heap.size, 0, none⟩) 0 0) (by go_simp) ⟨hS1.trans ((newB _ _).mono hS1.size), ⟨_, rfl⟩, ownsRow_mono (ownP_empty w1) hS1.size, g, hg0, hk.alloc _, hle⟩
      rintro v ⟨g9, rfl⟩
      rw [show List.erase [2, 5, 6, 8] 2 = [5, 6, 8] from rfl]; simp only [Act.put, List.setIfInBounds_toArray, List.set_cons_zero, List.set_cons_succ]
      refine TxtT.one 5 (by kernel_rfl) (by rw [List.getElem?_toArray]; rfl) (by rfl) (by rfl) (fun v => ∃ A' c', v = Value.slice A' l.length c') (fun v w' => OwnP w' W0.heap.size v l ∧ ∃ g, Value.pointer (some ⟨g5, 0, none⟩) = Value.pointer (some ⟨g, 0, none⟩) ∧ Blk w' g 24 #[.int .i64 0, .slice none 0 0] ∧ W0.heap.size ≤ g) (fun w1 hS1 hJ1 => ?_) ?_
      · obtain ⟨ho9, g, hg0, hk, hle⟩ := hJ1
        refine Eff.of_list (ops := #[]) (by rfl) ?_
        refine wpList_appPs (by rfl) _ _ (by rfl) w1 W0.heap.size _ [] A l c ho9 (hr0.below hS1) hA (by rfl) (by rfl) (by simp; omega) hS1.size ?_
        intro v' w' ho hb hg
        rw [List.nil_append] at ho
        obtain ⟨A', c', e', _, _⟩ := ho.form
        exact ⟨rfl, v', rfl, hS1.trans hb, ⟨A', c', e'⟩, ho, g, hg0, hk.grown hg (ho9.apartG hk), hle⟩
      rintro v ⟨A2, c2, rfl⟩
      rw [show List.erase [5, 6, 8] 5 = [6, 8] from rfl]; simp only [Act.put, List.setIfInBounds_toArray, List.set_cons_zero, List.set_cons_succ]
      refine TxtT.pure 6 (by rfl) (by rw [List.getElem?_toArray]; rfl) (by rfl) (by kernel_rfl) (by rfl) ?_; apply Exists.intro; refine ⟨fun w1 hS1 => ?_, ?_⟩; (focus (skip; go_simp; with_reducible rfl))
      rw [show List.erase [6, 8] 6 = [8] from rfl]; simp only [Act.put, List.setIfInBounds_toArray, List.set_cons_zero, List.set_cons_succ]
      refine TxtT.one 8 (by kernel_rfl) (by rw [List.getElem?_toArray]; rfl) (by rfl) (by rfl) (fun _ => True) (fun _ w' => Blk w' g5 24 #[.int .i64 N, .slice A2 l.length c2] ∧ OwnP w' W0.heap.size (.slice A2 l.length c2) l ∧ W0.heap.size ≤ g5) (fun w1 hS1 hJ1 => ?_) ?_
      · obtain ⟨ho, g, hg, hk, hle⟩ := hJ1
        injection hg with hg; injection hg with hg; injection hg with hg _ _; subst hg
        obtain ⟨f0, f1, f2, f3⟩ := hk.two
        obtain ⟨h1, h2, h3⟩ := hstore w1 g5 (.slice A2 l.length c2) ho hk hle hS1
        exact Eff.skip (w' := (w1.setCell ⟨g5, 0, none⟩ (.int .i64 N)).setCell ⟨g5, 1, none⟩ (.slice A2 l.length c2)) (by go_simp) ⟨h3, trivial, h1, h2, hle⟩
      rintro v8 _
      rw [show List.erase [8] 8 = [] from rfl]; simp only [Act.put]
      refine ⟨rfl, fun W1 hS hJ => ?_⟩
      obtain ⟨h1, h2, h3⟩ := hJ
      go_wp2_with fail
      go_meet
      exact ⟨g5, _, rfl, h1, h2, h3, hS⟩
  obtain ⟨g5, v, rfl, hk5, hov, hle5, hB⟩ := hcut
  generalize wc = W1 at hk5 hov hB ⊢
  have hst : SpS p g5 (w.heap.size + 1) W0.heap.size N v w W1 :=
    { src := hs0.kept hB, near := (Near.of_below hb0).trans (Near.of_below (hB.mono (by omega))), blk := hk5, res := kr0.below hB (by omega), hp := hpl, hR := by omega, hRB := by omega, hBg := hle5, hB := hB.size }
  clear hk5 hB hle5 hs0 hr0 hb0 hlt0 k0 kr0 c0 c1
  generalize W0.heap.size = B at *
  obtain ⟨A1, cA, rfl, hrv, hnv⟩ := hov.form
  obtain ⟨f0, f1, f2, f3⟩ := hst.blk.two
  have hltB : p < B := by omega
  by_cases hz : l.length = 0
  case pos =>
    have hzb : ((l.length : Int) == 0) = true := by simp [hz]
    have Hz := Lib.hid hz; clear hz
    go_wp2_with fail
    refine wp_region_textZ [3, 6, 7, 8, 9, 10, 12] (fun w' => SpS p g5 (w.heap.size + 1) B N (.slice A1 l.length cA) w w') (fun w' => OwnP w' B (.slice A1 l.length cA) l) (by kernel_rfl) (by kernel_rfl) (by kernel_rfl) (by kernel_rfl) (hst.below (Below.refl _ _).drew) (ownsRow_below hov (Below.refl _ _).drew) ?_
    clear f0 f1 f2 f3
    repeat (first
      | (refine TxtZL.skip (by rfl) ?_; simp only [Act.put, List.setIfInBounds_toArray, List.set_cons_zero, List.set_cons_succ])
      | (refine TxtZL.take (by rfl) (by rfl) ?_; apply Exists.intro; refine ⟨fun w1 hS1 => ?_, ?_⟩; (focus ((have g1 := hS1.blk.two.2.1); go_simp; with_reducible rfl)); simp only [Act.put, List.setIfInBounds_toArray, List.set_cons_zero, List.set_cons_succ])
      | (refine TxtZL.takeE' (by rfl) (by rfl) ?_; apply Exists.intro; refine ⟨fun w1 hS1 => ?_, ?_⟩; (focus ((have g1 := hS1.blk.two.2.1); go_simp; with_reducible rfl)); simp only [Act.put, List.setIfInBounds_toArray, List.set_cons_zero, List.set_cons_succ]))
    refine TxtZL.call (f := 21) (args := #[.pointer (some ⟨p, 0, none⟩), .int .i64 4]) (fun v => ∃ x, v = Value.int .i64 x ∧ 0 ≤ x ∧ x ≤ 3) (fun _ w' => OwnP w' B (.slice A1 l.length cA) l) (by rfl) (by rfl) ⟨_, 0, rfl, by omega, by omega⟩ (fun w1 hS1 hJ1 => by go_simp) (fun w1 hS1 hJ1 => ?_) ?_
    · refine (n_any p 4 w1 hS1.src (by omega) (by omega)).mono ?_
      rintro e w' ⟨x, rfl, hx1, hx2, hs, hg⟩
      exact ⟨_, rfl, hS1.read hs hg, ⟨x, rfl, by omega, by omega⟩, ownsRow_far hJ1 hg (by omega)⟩
    rintro v21 ⟨x, rfl, hx1, hx2⟩
    simp only [Act.put, List.setIfInBounds_toArray, List.set_cons_zero, List.set_cons_succ]
    repeat (first
      | (refine TxtZL.skip (by rfl) ?_; simp only [Act.put, List.setIfInBounds_toArray, List.set_cons_zero, List.set_cons_succ])
      | (refine TxtZL.take (by rfl) (by rfl) ?_; apply Exists.intro; refine ⟨fun w1 hS1 => ?_, ?_⟩; (focus ((have g1 := hS1.blk.two.2.1); go_simp; with_reducible rfl)); simp only [Act.put, List.setIfInBounds_toArray, List.set_cons_zero, List.set_cons_succ])
      | (refine TxtZL.takeE' (by rfl) (by rfl) ?_; apply Exists.intro; refine ⟨fun w1 hS1 => ?_, ?_⟩; (focus ((have g1 := hS1.blk.two.2.1); go_simp; with_reducible rfl)); simp only [Act.put, List.setIfInBounds_toArray, List.set_cons_zero, List.set_cons_succ]))
    refine TxtZL.call (f := 21) (args := #[.pointer (some ⟨p, 0, none⟩), .int .i64 4]) (fun v => ∃ x, v = Value.int .i64 x ∧ 0 ≤ x ∧ x ≤ 3) (fun _ w' => OwnP w' B (.slice A1 l.length cA) l) (by rfl) (by rfl) ⟨_, 0, rfl, by omega, by omega⟩ (fun w1 hS1 hJ1 => by go_simp) (fun w1 hS1 hJ1 => ?_) ?_
    · refine (n_any p 4 w1 hS1.src (by omega) (by omega)).mono ?_
      rintro e w' ⟨x, rfl, hx1, hx2, hs, hg⟩
      exact ⟨_, rfl, hS1.read hs hg, ⟨x, rfl, by omega, by omega⟩, ownsRow_far hJ1 hg (by omega)⟩
    rintro v24 ⟨y, rfl, hy1, hy2⟩
    simp only [Act.put, List.setIfInBounds_toArray, List.set_cons_zero, List.set_cons_succ]
    repeat (first
      | (refine TxtZL.skip (by rfl) ?_; simp only [Act.put, List.setIfInBounds_toArray, List.set_cons_zero, List.set_cons_succ])
      | (refine TxtZL.take (by rfl) (by rfl) ?_; apply Exists.intro; refine ⟨fun w1 hS1 => ?_, ?_⟩; (focus ((have g1 := hS1.blk.two.2.1); go_simp; with_reducible rfl)); simp only [Act.put, List.setIfInBounds_toArray, List.set_cons_zero, List.set_cons_succ])
      | (refine TxtZL.takeE' (by rfl) (by rfl) ?_; apply Exists.intro; refine ⟨fun w1 hS1 => ?_, ?_⟩; (focus ((have g1 := hS1.blk.two.2.1); go_simp; with_reducible rfl)); simp only [Act.put, List.setIfInBounds_toArray, List.set_cons_zero, List.set_cons_succ]))
    refine TxtZL.value (fun v => ∃ k, v = Value.slice (some ⟨k, 0, none⟩) 1 1) (fun v w' => ∃ X, w' = X.alloc (.cells #[.int .i64 (IntKind.i64.wrap (x - 1)), .int .i64 (IntKind.i64.wrap (y - 1))] 43) ∧ v = Value.slice (some ⟨X.heap.size, 0, none⟩) 1 1 ∧ OwnP X B (.slice A1 l.length cA) l ∧ SpS p g5 (w.heap.size + 1) B N (.slice A1 l.length cA) w X) (by rfl) (by rfl) ⟨_, 0, rfl⟩ (fun w1 hS1 hJ1 => ?_) ?_
    · exact ⟨.slice (some ⟨w1.heap.size, 0, none⟩) 1 1, w1.alloc (.cells #[.int .i64 (IntKind.i64.wrap (x - 1)), .int .i64 (IntKind.i64.wrap (y - 1))] 43), by go_simp, hS1.below (newB _ _), ⟨_, rfl⟩, w1, rfl, rfl, hJ1, hS1⟩
    rintro v27 ⟨k27, rfl⟩
    simp only [Act.put, List.setIfInBounds_toArray, List.set_cons_zero, List.set_cons_succ]
    refine TxtZL.eff (fun v => ∃ A' c', v = Value.slice A' (l.length + 1) c') (fun v w' => OwnP w' B v (l ++ [(IntKind.i64.wrap (x - 1), IntKind.i64.wrap (y - 1))])) (by rfl) (by rfl) ⟨_, none, 0, rfl⟩ (fun w1 hS1 hJ1 => ?_) ?_
    · obtain ⟨X, rfl, hk, hX, hSX⟩ := hJ1
      injection hk with hk; injection hk with hk; injection hk with hk _ _; subst hk
      refine Eff.of_list (ops := #[]) (by rfl) ?_
      refine wpList_appP2 (by rfl) _ _ (by rfl) X B _ l _ _ hX (by rfl) (by rfl) rfl (by omega) hSX.hB ?_
      intro v' w' ho hb hg
      obtain ⟨A', c', e', _, _⟩ := ho.form
      exact ⟨rfl, v', rfl, hSX.append hX hg hb, ⟨A', c', by rw [e', List.length_append]; rfl⟩, ho⟩
    rintro v28 ⟨A2, c2, rfl⟩
    simp only [Act.put, List.setIfInBounds_toArray, List.set_cons_zero, List.set_cons_succ]
    repeat (first
      | (refine TxtZL.skip (by rfl) ?_; simp only [Act.put, List.setIfInBounds_toArray, List.set_cons_zero, List.set_cons_succ])
      | (refine TxtZL.take (by rfl) (by rfl) ?_; apply Exists.intro; refine ⟨fun w1 hS1 => ?_, ?_⟩; (focus ((have g1 := hS1.blk.two.2.1); go_simp; with_reducible rfl)); simp only [Act.put, List.setIfInBounds_toArray, List.set_cons_zero, List.set_cons_succ])
      | (refine TxtZL.takeE' (by rfl) (by rfl) ?_; apply Exists.intro; refine ⟨fun w1 hS1 => ?_, ?_⟩; (focus ((have g1 := hS1.blk.two.2.1); go_simp; with_reducible rfl)); simp only [Act.put, List.setIfInBounds_toArray, List.set_cons_zero, List.set_cons_succ]))
    refine TxtZL.last (fun w' => SpS p g5 (w.heap.size + 1) B N (.slice A2 (l.length + 1) c2) w w' ∧ OwnP w' B (.slice A2 (l.length + 1) c2) (l ++ [(IntKind.i64.wrap (x - 1), IntKind.i64.wrap (y - 1))])) (by rfl) (by rfl) (fun w1 hS1 hJ1 => ?_) ?_
    · obtain ⟨f0, f1, f2, f3⟩ := hS1.blk.two
      exact Eff.skip (w' := w1.setCell ⟨g5, 1, none⟩ (.slice A2 (l.length + 1) c2)) (by go_simp) ⟨hS1.store1 _, World.ownsRow.kept hJ1 (grownBy_setCell w1 g5 1 _) (.inr fun e => hJ1.apartG hS1.blk e.symm)⟩
    rintro v0 w1 ⟨hE, hO⟩
    clear hst hov
    obtain ⟨f0, f1, f2, f3⟩ := hE.blk.two
    obtain ⟨r0, r1, r2, r3⟩ := hE.res.two
    obtain ⟨h1, h2⟩ := hE.ends hO l.length (by simp)
    have H1 := Lib.hid h1; have H2 := Lib.hid h2
    clear h1 h2
    go_wp2_with fail
    obtain ⟨e0, e1, _, _⟩ := H1.out.two
    refine bodyPost_ret (v := .agg #[.int .i64 N, .slice A2 (l.length + 1) c2]) (by simp [results, Tryd.results13, go_sem] at e0 e1 ⊢; simp [e0, e1]) rfl H2.out
  case neg =>
    have hzb : ((l.length : Int) == 0) = false := by rw [beq_eq_false_iff_ne]; omega
    have Hz := Lib.hid hz; clear hz
    go_wp2_with fail
    refine (n_any p (l.length : Int) W1 hst.src (by have := Hz.out; omega) (by omega)).mono ?_
    rintro e w2 ⟨i, rfl, hi1, hi2, hs2, hg2⟩
    obtain ⟨i, rfl⟩ := Int.eq_ofNat_of_zero_le hi1
    have hst2 := hst.read hs2 hg2
    have hov2 : OwnP w2 B (.slice A1 l.length cA) l := ownsRow_far hov hg2 hltB
    clear hst hov f0 f1 f2 f3 hs2 hg2
    go_wp2_with fail
    refine (n_any p 5 w2 hst2.src (by omega) (by omega)).mono ?_
    rintro e w3 ⟨d, rfl, hd1, hd2, hs3, hg3⟩
    have hst3 := hst2.read hs3 hg3
    have hov3 : OwnP w3 B (.slice A1 l.length cA) l := ownsRow_far hov2 hg3 hltB
    clear hst2 hov2 hs3 hg3 hrv hnv
    have Hlp := Lib.hid (show 0 < l.length by have := Hz.out; omega)
    have hil : (i : Int) < (l.length : Int) := by omega
    obtain ⟨k, rfl, hBk, hkw, hkf⟩ := hov3.pos Hlp.out
    have Hov3 := Lib.hid hov3; clear hov3
    obtain ⟨f0, f1, f2, f3⟩ := hst3.blk.two
    rcases (by omega : d = 0 ∨ d = 1 ∨ d = 2 ∨ d = 3 ∨ d = 4) with rfl | rfl | rfl | rfl | rfl
    case inl =>
      go_wp2_with fail
      refine wp_region_textZ [4, 5, 6, 7, 8] (fun w' => SpS p g5 (w.heap.size + 1) B N (.slice (some ⟨k, 0, none⟩) l.length cA) w w') (fun w' => OwnP w' B (.slice (some ⟨k, 0, none⟩) l.length cA) l) (by kernel_rfl) (by kernel_rfl) (by kernel_rfl) (by kernel_rfl) (hst3.below (Below.refl _ _).drew) (ownsRow_below Hov3.out (Below.refl _ _).drew) ?_
      clear f0 f1 f2 f3
      repeat (first
        | (refine TxtZL.skip (by rfl) ?_; simp only [Act.put, List.setIfInBounds_toArray, List.set_cons_zero, List.set_cons_succ])
        | (refine TxtZL.take (by rfl) (by rfl) ?_; apply Exists.intro; refine ⟨fun w1 hS1 => ?_, ?_⟩; (focus ((have g1 := hS1.blk.two.2.1); go_simp; with_reducible rfl)); simp only [Act.put, List.setIfInBounds_toArray, List.set_cons_zero, List.set_cons_succ])
        | (refine TxtZL.takeE' (by rfl) (by rfl) ?_; apply Exists.intro; refine ⟨fun w1 hS1 => ?_, ?_⟩; (focus ((have g1 := hS1.blk.two.2.1); go_simp; with_reducible rfl)); simp only [Act.put, List.setIfInBounds_toArray, List.set_cons_zero, List.set_cons_succ]))
      refine TxtZL.call (f := 21) (args := #[.pointer (some ⟨p, 0, none⟩), .int .i64 10]) (fun v => ∃ x, v = Value.int .i64 x ∧ 0 ≤ x ∧ x ≤ 9) (fun _ w' => OwnP w' B (.slice (some ⟨k, 0, none⟩) l.length cA) l) (by rfl) (by rfl) ⟨_, 0, rfl, by omega, by omega⟩ (fun w1 hS1 hJ1 => by go_simp) (fun w1 hS1 hJ1 => ?_) ?_
      · refine (n_any p 10 w1 hS1.src (by omega) (by omega)).mono ?_
        rintro e w' ⟨x, rfl, hx1, hx2, hs, hg⟩
        exact ⟨_, rfl, hS1.read hs hg, ⟨x, rfl, by omega, by omega⟩, ownsRow_far hJ1 hg (by omega)⟩
      rintro v48 ⟨x, rfl, hx1, hx2⟩
      simp only [Act.put, List.setIfInBounds_toArray, List.set_cons_zero, List.set_cons_succ]
      repeat (first
        | (refine TxtZL.skip (by rfl) ?_; simp only [Act.put, List.setIfInBounds_toArray, List.set_cons_zero, List.set_cons_succ])
        | (refine TxtZL.take (by rfl) (by rfl) ?_; apply Exists.intro; refine ⟨fun w1 hS1 => ?_, ?_⟩; (focus ((have g1 := hS1.blk.two.2.1); go_simp; with_reducible rfl)); simp only [Act.put, List.setIfInBounds_toArray, List.set_cons_zero, List.set_cons_succ])
        | (refine TxtZL.takeE' (by rfl) (by rfl) ?_; apply Exists.intro; refine ⟨fun w1 hS1 => ?_, ?_⟩; (focus ((have g1 := hS1.blk.two.2.1); go_simp; with_reducible rfl)); simp only [Act.put, List.setIfInBounds_toArray, List.set_cons_zero, List.set_cons_succ]))
      refine TxtZL.last (fun w' => SpS p g5 (w.heap.size + 1) B N (.slice (some ⟨k, 0, none⟩) l.length cA) w w' ∧ OwnP w' B (.slice (some ⟨k, 0, none⟩) l.length cA) (l.set i (IntKind.i64.wrap (x - 1), (l.getD i (0, 0)).2))) (by rfl) (by rfl) (fun w1 hS1 hJ1 => ?_) ?_
      · obtain ⟨k', hk', hBk, hkw, hkf⟩ := hJ1.pos Hlp.out
        obtain rfl := addr_inj hk'
        have hkf' := hkf (i * 2)
        have hap := hS1.apart hJ1
        obtain ⟨q0, q1⟩ := hJ1.cells2 (k := i) (by omega)
        have hst := hJ1.storeF (k := i * 2) (x := IntKind.i64.wrap (x - 1)) (l' := l.set i (IntKind.i64.wrap (x - 1), (l.getD i (0, 0)).2)) (by simp) (flatP_set1 l i _)
        have Hst := Lib.hid hst; have HJ := Lib.hid hJ1; clear hst hJ1
        exact Eff.skip (w' := w1.setCell ⟨k, i * 2, none⟩ (.int .i64 (IntKind.i64.wrap (x - 1)))) (by go_simp) ⟨hS1.put hBk hap _, Hst.out⟩
      rintro v0 w1 ⟨hE, hO⟩
      have hls : (l.set i (IntKind.i64.wrap (x - 1), (l.getD i (0, 0)).2)).length = l.length := List.length_set ..
      have hO' : OwnP w1 B (.slice (some ⟨k, 0, none⟩) l.length cA) _ := hO
      clear hst3 hO
      obtain ⟨f0, f1, f2, f3⟩ := hE.blk.two
      obtain ⟨r0, r1, r2, r3⟩ := hE.res.two
      obtain ⟨h1, h2⟩ := hE.ends hO' l.length (by rw [hls]; omega)
      have H1 := Lib.hid h1; have H2 := Lib.hid h2
      clear h1 h2
      go_wp2_with fail
      obtain ⟨e0, e1, _, _⟩ := H1.out.two
      refine bodyPost_ret (v := .agg #[.int .i64 N, .slice (some ⟨k, 0, none⟩) l.length cA]) (by simp [results, Tryd.results13, go_sem] at e0 e1 ⊢; simp [e0, e1]) rfl H2.out
    case inr.inl =>
      go_wp2_with fail
      refine wp_region_textZ [4, 5, 6, 7, 8] (fun w' => SpS p g5 (w.heap.size + 1) B N (.slice (some ⟨k, 0, none⟩) l.length cA) w w') (fun w' => OwnP w' B (.slice (some ⟨k, 0, none⟩) l.length cA) l) (by kernel_rfl) (by kernel_rfl) (by kernel_rfl) (by kernel_rfl) (hst3.below (Below.refl _ _).drew) (ownsRow_below Hov3.out (Below.refl _ _).drew) ?_
      clear f0 f1 f2 f3
      repeat (first
        | (refine TxtZL.skip (by rfl) ?_; simp only [Act.put, List.setIfInBounds_toArray, List.set_cons_zero, List.set_cons_succ])
        | (refine TxtZL.take (by rfl) (by rfl) ?_; apply Exists.intro; refine ⟨fun w1 hS1 => ?_, ?_⟩; (focus ((have g1 := hS1.blk.two.2.1); go_simp; with_reducible rfl)); simp only [Act.put, List.setIfInBounds_toArray, List.set_cons_zero, List.set_cons_succ])
        | (refine TxtZL.takeE' (by rfl) (by rfl) ?_; apply Exists.intro; refine ⟨fun w1 hS1 => ?_, ?_⟩; (focus ((have g1 := hS1.blk.two.2.1); go_simp; with_reducible rfl)); simp only [Act.put, List.setIfInBounds_toArray, List.set_cons_zero, List.set_cons_succ]))
      refine TxtZL.call (f := 21) (args := #[.pointer (some ⟨p, 0, none⟩), .int .i64 10]) (fun v => ∃ x, v = Value.int .i64 x ∧ 0 ≤ x ∧ x ≤ 9) (fun _ w' => OwnP w' B (.slice (some ⟨k, 0, none⟩) l.length cA) l) (by rfl) (by rfl) ⟨_, 0, rfl, by omega, by omega⟩ (fun w1 hS1 hJ1 => by go_simp) (fun w1 hS1 hJ1 => ?_) ?_
      · refine (n_any p 10 w1 hS1.src (by omega) (by omega)).mono ?_
        rintro e w' ⟨x, rfl, hx1, hx2, hs, hg⟩
        exact ⟨_, rfl, hS1.read hs hg, ⟨x, rfl, by omega, by omega⟩, ownsRow_far hJ1 hg (by omega)⟩
      rintro v48 ⟨x, rfl, hx1, hx2⟩
      simp only [Act.put, List.setIfInBounds_toArray, List.set_cons_zero, List.set_cons_succ]
      repeat (first
        | (refine TxtZL.skip (by rfl) ?_; simp only [Act.put, List.setIfInBounds_toArray, List.set_cons_zero, List.set_cons_succ])
        | (refine TxtZL.take (by rfl) (by rfl) ?_; apply Exists.intro; refine ⟨fun w1 hS1 => ?_, ?_⟩; (focus ((have g1 := hS1.blk.two.2.1); go_simp; with_reducible rfl)); simp only [Act.put, List.setIfInBounds_toArray, List.set_cons_zero, List.set_cons_succ])
        | (refine TxtZL.takeE' (by rfl) (by rfl) ?_; apply Exists.intro; refine ⟨fun w1 hS1 => ?_, ?_⟩; (focus ((have g1 := hS1.blk.two.2.1); go_simp; with_reducible rfl)); simp only [Act.put, List.setIfInBounds_toArray, List.set_cons_zero, List.set_cons_succ]))
      refine TxtZL.last (fun w' => SpS p g5 (w.heap.size + 1) B N (.slice (some ⟨k, 0, none⟩) l.length cA) w w' ∧ OwnP w' B (.slice (some ⟨k, 0, none⟩) l.length cA) (l.set i ((l.getD i (0, 0)).1, IntKind.i64.wrap (x - 1)))) (by rfl) (by rfl) (fun w1 hS1 hJ1 => ?_) ?_
      · obtain ⟨k', hk', hBk, hkw, hkf⟩ := hJ1.pos Hlp.out
        obtain rfl := addr_inj hk'
        have hkf' := hkf (i * 2 + 1)
        have hap := hS1.apart hJ1
        obtain ⟨q0, q1⟩ := hJ1.cells2 (k := i) (by omega)
        have hst := hJ1.storeF (k := i * 2 + 1) (x := IntKind.i64.wrap (x - 1)) (l' := l.set i ((l.getD i (0, 0)).1, IntKind.i64.wrap (x - 1))) (by simp) (flatP_set2 l i _)
        have Hst := Lib.hid hst; have HJ := Lib.hid hJ1; clear hst hJ1
        exact Eff.skip (w' := w1.setCell ⟨k, i * 2 + 1, none⟩ (.int .i64 (IntKind.i64.wrap (x - 1)))) (by go_simp) ⟨hS1.put hBk hap _, Hst.out⟩
      rintro v0 w1 ⟨hE, hO⟩
      have hls : (l.set i ((l.getD i (0, 0)).1, IntKind.i64.wrap (x - 1))).length = l.length := List.length_set ..
      have hO' : OwnP w1 B (.slice (some ⟨k, 0, none⟩) l.length cA) _ := hO
      clear hst3 hO
      obtain ⟨f0, f1, f2, f3⟩ := hE.blk.two
      obtain ⟨r0, r1, r2, r3⟩ := hE.res.two
      obtain ⟨h1, h2⟩ := hE.ends hO' l.length (by rw [hls]; omega)
      have H1 := Lib.hid h1; have H2 := Lib.hid h2
      clear h1 h2
      go_wp2_with fail
      obtain ⟨e0, e1, _, _⟩ := H1.out.two
      refine bodyPost_ret (v := .agg #[.int .i64 N, .slice (some ⟨k, 0, none⟩) l.length cA]) (by simp [results, Tryd.results13, go_sem] at e0 e1 ⊢; simp [e0, e1]) rfl H2.out
    case inr.inr.inl =>
      go_wp2_with fail
      refine wp_region_textZ [6, 7, 8, 10] (fun w' => SpS p g5 (w.heap.size + 1) B N (.slice (some ⟨k, 0, none⟩) l.length cA) w w') (fun w' => OwnP w' B (.slice (some ⟨k, 0, none⟩) l.length cA) l) (by kernel_rfl) (by kernel_rfl) (by kernel_rfl) (by kernel_rfl) (hst3.below (Below.refl _ _).drew) (ownsRow_below Hov3.out (Below.refl _ _).drew) ?_
      clear f0 f1 f2 f3
      repeat (first
        | (refine TxtZL.skip (by rfl) ?_; simp only [Act.put, List.setIfInBounds_toArray, List.set_cons_zero, List.set_cons_succ])
        | (refine TxtZL.take (by rfl) (by rfl) ?_; apply Exists.intro; refine ⟨fun w1 hS1 => ?_, ?_⟩; (focus ((have g1 := hS1.blk.two.2.1); go_simp; with_reducible rfl)); simp only [Act.put, List.setIfInBounds_toArray, List.set_cons_zero, List.set_cons_succ])
        | (refine TxtZL.takeE' (by rfl) (by rfl) ?_; apply Exists.intro; refine ⟨fun w1 hS1 => ?_, ?_⟩; (focus ((have g1 := hS1.blk.two.2.1); go_simp; with_reducible rfl)); simp only [Act.put, List.setIfInBounds_toArray, List.set_cons_zero, List.set_cons_succ]))
      refine TxtZL.value (fun v => v = Value.agg #[.int .i64 (l.getD i (0, 0)).1, .int .i64 (l.getD i (0, 0)).2]) (fun v w' => OwnP w' B (.slice (some ⟨k, 0, none⟩) l.length cA) l) (by rfl) (by rfl) ⟨_, rfl⟩ (fun w1 hS1 hJ1 => ?_) ?_
      · obtain ⟨q0, q1⟩ := hJ1.cells2 (k := i) (by omega)
        have HJ := Lib.hid hJ1; clear hJ1
        exact ⟨Value.agg #[.int .i64 (l.getD i (0, 0)).1, .int .i64 (l.getD i (0, 0)).2], w1, by go_simp, hS1, rfl, HJ.out⟩
      rintro v70 rfl
      simp only [Act.put, List.setIfInBounds_toArray, List.set_cons_zero, List.set_cons_succ]
      refine TxtZL.value (fun v => ∃ k, v = Value.slice (some ⟨k, 0, none⟩) 1 1) (fun v w' => ∃ X, w' = X.alloc (.cells #[.int .i64 (l.getD i (0, 0)).1, .int .i64 (l.getD i (0, 0)).2] 43) ∧ v = Value.slice (some ⟨X.heap.size, 0, none⟩) 1 1 ∧ OwnP X B (.slice (some ⟨k, 0, none⟩) l.length cA) l ∧ SpS p g5 (w.heap.size + 1) B N (.slice (some ⟨k, 0, none⟩) l.length cA) w X) (by rfl) (by rfl) ⟨_, 0, rfl⟩ (fun w1 hS1 hJ1 => ?_) ?_
      · exact ⟨.slice (some ⟨w1.heap.size, 0, none⟩) 1 1, w1.alloc (.cells #[.int .i64 (l.getD i (0, 0)).1, .int .i64 (l.getD i (0, 0)).2] 43), by go_simp, hS1.below (newB _ _), ⟨_, rfl⟩, w1, rfl, rfl, hJ1, hS1⟩
      rintro v71 ⟨k71, rfl⟩
      simp only [Act.put, List.setIfInBounds_toArray, List.set_cons_zero, List.set_cons_succ]
      refine TxtZL.eff (fun v => ∃ A' c', v = Value.slice A' (l.length + 1) c') (fun v w' => OwnP w' B v (l ++ [((l.getD i (0, 0)).1, (l.getD i (0, 0)).2)])) (by rfl) (by rfl) ⟨_, none, 0, rfl⟩ (fun w1 hS1 hJ1 => ?_) ?_
      · obtain ⟨X, rfl, hk, hX, hSX⟩ := hJ1
        injection hk with hk; injection hk with hk; injection hk with hk _ _; subst hk
        refine Eff.of_list (ops := #[]) (by rfl) ?_
        refine wpList_appP2 (by rfl) _ _ (by rfl) X B _ l _ _ hX (by rfl) (by rfl) rfl (by omega) hSX.hB ?_
        intro v' w' ho hb hg
        obtain ⟨A', c', e', _, _⟩ := ho.form
        exact ⟨rfl, v', rfl, hSX.append hX hg hb, ⟨A', c', by rw [e', List.length_append]; rfl⟩, ho⟩
      rintro v28 ⟨A2, c2, rfl⟩
      simp only [Act.put, List.setIfInBounds_toArray, List.set_cons_zero, List.set_cons_succ]
      repeat (first
        | (refine TxtZL.skip (by rfl) ?_; simp only [Act.put, List.setIfInBounds_toArray, List.set_cons_zero, List.set_cons_succ])
        | (refine TxtZL.take (by rfl) (by rfl) ?_; apply Exists.intro; refine ⟨fun w1 hS1 => ?_, ?_⟩; (focus ((have g1 := hS1.blk.two.2.1); go_simp; with_reducible rfl)); simp only [Act.put, List.setIfInBounds_toArray, List.set_cons_zero, List.set_cons_succ])
        | (refine TxtZL.takeE' (by rfl) (by rfl) ?_; apply Exists.intro; refine ⟨fun w1 hS1 => ?_, ?_⟩; (focus ((have g1 := hS1.blk.two.2.1); go_simp; with_reducible rfl)); simp only [Act.put, List.setIfInBounds_toArray, List.set_cons_zero, List.set_cons_succ]))
      refine TxtZL.last (fun w' => SpS p g5 (w.heap.size + 1) B N (.slice A2 (l.length + 1) c2) w w' ∧ OwnP w' B (.slice A2 (l.length + 1) c2) (l ++ [((l.getD i (0, 0)).1, (l.getD i (0, 0)).2)])) (by rfl) (by rfl) (fun w1 hS1 hJ1 => ?_) ?_
      · obtain ⟨f0, f1, f2, f3⟩ := hS1.blk.two
        exact Eff.skip (w' := w1.setCell ⟨g5, 1, none⟩ (.slice A2 (l.length + 1) c2)) (by go_simp) ⟨hS1.store1 _, World.ownsRow.kept hJ1 (grownBy_setCell w1 g5 1 _) (.inr fun e => hJ1.apartG hS1.blk e.symm)⟩
      rintro v0 w1 ⟨hE, hO⟩
      clear hst3
      obtain ⟨f0, f1, f2, f3⟩ := hE.blk.two
      obtain ⟨r0, r1, r2, r3⟩ := hE.res.two
      obtain ⟨h1, h2⟩ := hE.ends hO l.length (by simp)
      have H1 := Lib.hid h1; have H2 := Lib.hid h2
      clear h1 h2
      go_wp2_with fail
      obtain ⟨e0, e1, _, _⟩ := H1.out.two
      refine bodyPost_ret (v := .agg #[.int .i64 N, .slice A2 (l.length + 1) c2]) (by simp [results, Tryd.results13, go_sem] at e0 e1 ⊢; simp [e0, e1]) rfl H2.out
    case inr.inr.inr.inl =>
      go_wp2_with fail
      refine wp_region_tree [8, 13, 15, 17] (fun w' => SpS p g5 (w.heap.size + 1) B N (.slice (some ⟨k, 0, none⟩) l.length cA) w w') (fun w' => OwnP w' B (.slice (some ⟨k, 0, none⟩) l.length cA) l) 18 [0, 1, 2, 3, 4, 5, 6, 7, 8, 9, 10, 11, 12, 13, 14, 15, 16, 17] (by rfl) (by decide) (by kernel_rfl) (by kernel_rfl) (hst3.below (Below.refl _ _).drew) (ownsRow_below Hov3.out (Below.refl _ _).drew) ?_
      clear f0 f1 f2 f3
      refine TxtT.pure 0 (by rfl) (by rw [List.getElem?_toArray]; rfl) (by rfl) (by kernel_rfl) (by rfl) ?_; apply Exists.intro; refine ⟨fun w1 hS1 => ?_, ?_⟩; (focus (skip; go_simp; with_reducible rfl))
      rw [show List.erase [0, 1, 2, 3, 4, 5, 6, 7, 8, 9, 10, 11, 12, 13, 14, 15, 16, 17] 0 = [1, 2, 3, 4, 5, 6, 7, 8, 9, 10, 11, 12, 13, 14, 15, 16, 17] from rfl]; simp only [Act.put, List.setIfInBounds_toArray, List.set_cons_zero, List.set_cons_succ]
      refine TxtT.pure 1 (by rfl) (by rw [List.getElem?_toArray]; rfl) (by rfl) (by kernel_rfl) (by rfl) ?_; apply Exists.intro; refine ⟨fun w1 hS1 => ?_, ?_⟩; (focus ((have g1 := hS1.blk.two.2.1); go_simp; with_reducible rfl))
      rw [show List.erase [1, 2, 3, 4, 5, 6, 7, 8, 9, 10, 11, 12, 13, 14, 15, 16, 17] 1 = [2, 3, 4, 5, 6, 7, 8, 9, 10, 11, 12, 13, 14, 15, 16, 17] from rfl]; simp only [Act.put, List.setIfInBounds_toArray, List.set_cons_zero, List.set_cons_succ]
      refine TxtT.pure 2 (by rfl) (by rw [List.getElem?_toArray]; rfl) (by rfl) (by kernel_rfl) (by rfl) ?_; apply Exists.intro; refine ⟨fun w1 hS1 => ?_, ?_⟩; (focus (skip; go_simp; with_reducible rfl))
      rw [show List.erase [2, 3, 4, 5, 6, 7, 8, 9, 10, 11, 12, 13, 14, 15, 16, 17] 2 = [3, 4, 5, 6, 7, 8, 9, 10, 11, 12, 13, 14, 15, 16, 17] from rfl]; simp only [Act.put, List.setIfInBounds_toArray, List.set_cons_zero, List.set_cons_succ]
      refine TxtT.pure 3 (by rfl) (by rw [List.getElem?_toArray]; rfl) (by rfl) (by kernel_rfl) (by rfl) ?_; apply Exists.intro; refine ⟨fun w1 hS1 => ?_, ?_⟩; (focus (skip; go_simp; with_reducible rfl))
      rw [show List.erase [3, 4, 5, 6, 7, 8, 9, 10, 11, 12, 13, 14, 15, 16, 17] 3 = [4, 5, 6, 7, 8, 9, 10, 11, 12, 13, 14, 15, 16, 17] from rfl]; simp only [Act.put, List.setIfInBounds_toArray, List.set_cons_zero, List.set_cons_succ]
      refine TxtT.pure 4 (by rfl) (by rw [List.getElem?_toArray]; rfl) (by rfl) (by kernel_rfl) (by rfl) ?_; apply Exists.intro; refine ⟨fun w1 hS1 => ?_, ?_⟩; (focus ((have g1 := hS1.blk.two.2.1); go_simp; with_reducible rfl))
      rw [show List.erase [4, 5, 6, 7, 8, 9, 10, 11, 12, 13, 14, 15, 16, 17] 4 = [5, 6, 7, 8, 9, 10, 11, 12, 13, 14, 15, 16, 17] from rfl]; simp only [Act.put, List.setIfInBounds_toArray, List.set_cons_zero, List.set_cons_succ]
      refine TxtT.pure 5 (by rfl) (by rw [List.getElem?_toArray]; rfl) (by rfl) (by kernel_rfl) (by rfl) ?_; apply Exists.intro; refine ⟨fun w1 hS1 => ?_, ?_⟩; (focus (skip; go_simp; with_reducible rfl))
      rw [show List.erase [5, 6, 7, 8, 9, 10, 11, 12, 13, 14, 15, 16, 17] 5 = [6, 7, 8, 9, 10, 11, 12, 13, 14, 15, 16, 17] from rfl]; simp only [Act.put, List.setIfInBounds_toArray, List.set_cons_zero, List.set_cons_succ]
      refine TxtT.pure 6 (by rfl) (by rw [List.getElem?_toArray]; rfl) (by rfl) (by kernel_rfl) (by rfl) ?_; apply Exists.intro; refine ⟨fun w1 hS1 => ?_, ?_⟩; (focus ((have g1 := hS1.blk.two.2.1); go_simp; with_reducible rfl))
      rw [show List.erase [6, 7, 8, 9, 10, 11, 12, 13, 14, 15, 16, 17] 6 = [7, 8, 9, 10, 11, 12, 13, 14, 15, 16, 17] from rfl]; simp only [Act.put, List.setIfInBounds_toArray, List.set_cons_zero, List.set_cons_succ]
      refine TxtT.pure 7 (by rfl) (by rw [List.getElem?_toArray]; rfl) (by rfl) (by kernel_rfl) (by rfl) ?_; apply Exists.intro; refine ⟨fun w1 hS1 => ?_, ?_⟩; (focus ((have z := Hlp.out); go_simp; with_reducible rfl))
      rw [show List.erase [7, 8, 9, 10, 11, 12, 13, 14, 15, 16, 17] 7 = [8, 9, 10, 11, 12, 13, 14, 15, 16, 17] from rfl]; simp only [Act.put, List.setIfInBounds_toArray, List.set_cons_zero, List.set_cons_succ]
      refine TxtT.pure 9 (by rfl) (by rw [List.getElem?_toArray]; rfl) (by rfl) (by kernel_rfl) (by rfl) ?_; apply Exists.intro; refine ⟨fun w1 hS1 => ?_, ?_⟩; (focus (skip; go_simp; with_reducible rfl))
      rw [show List.erase [8, 9, 10, 11, 12, 13, 14, 15, 16, 17] 9 = [8, 10, 11, 12, 13, 14, 15, 16, 17] from rfl]; simp only [Act.put, List.setIfInBounds_toArray, List.set_cons_zero, List.set_cons_succ]
      refine TxtT.pure 10 (by rfl) (by rw [List.getElem?_toArray]; rfl) (by rfl) (by kernel_rfl) (by rfl) ?_; apply Exists.intro; refine ⟨fun w1 hS1 => ?_, ?_⟩; (focus ((have g1 := hS1.blk.two.2.1); go_simp; with_reducible rfl))
      rw [show List.erase [8, 10, 11, 12, 13, 14, 15, 16, 17] 10 = [8, 11, 12, 13, 14, 15, 16, 17] from rfl]; simp only [Act.put, List.setIfInBounds_toArray, List.set_cons_zero, List.set_cons_succ]
      refine TxtT.pure 11 (by rfl) (by rw [List.getElem?_toArray]; rfl) (by rfl) (by kernel_rfl) (by rfl) ?_; apply Exists.intro; refine ⟨fun w1 hS1 => ?_, ?_⟩; (focus (skip; go_simp; with_reducible rfl))
      rw [show List.erase [8, 11, 12, 13, 14, 15, 16, 17] 11 = [8, 12, 13, 14, 15, 16, 17] from rfl]; simp only [Act.put, List.setIfInBounds_toArray, List.set_cons_zero, List.set_cons_succ]
      refine TxtT.pure 12 (by rfl) (by rw [List.getElem?_toArray]; rfl) (by rfl) (by kernel_rfl) (by rfl) ?_; apply Exists.intro; refine ⟨fun w1 hS1 => ?_, ?_⟩; (focus (skip; go_simp; with_reducible rfl))
      rw [show List.erase [8, 12, 13, 14, 15, 16, 17] 12 = [8, 13, 14, 15, 16, 17] from rfl]; simp only [Act.put, List.setIfInBounds_toArray, List.set_cons_zero, List.set_cons_succ]
      have hld0 : ∀ w1, OwnP w1 B (.slice (some ⟨k, 0, none⟩) l.length cA) l → w1.cell? ⟨k, 0, none⟩ = some (.int .i64 (l.getD 0 (0, 0)).1) ∧ w1.cell? ⟨k, 1, none⟩ = some (.int .i64 (l.getD 0 (0, 0)).2) := fun w1 hJ1 => by
        have h := hJ1.cells2 (k := 0) Hlp.out
        simp only [Nat.zero_mul, Nat.zero_add] at h
        exact h
      refine TxtT.two 8 13 (by kernel_rfl) (by rw [List.getElem?_toArray]; rfl) (by rw [List.getElem?_toArray]; rfl) (by rfl) (by rfl) (by rfl) (by rfl) (fun v => v = Value.agg #[.int .i64 (l.getD 0 (0, 0)).1, .int .i64 (l.getD 0 (0, 0)).2]) (fun v w' => OwnP w' B (.slice (some ⟨k, 0, none⟩) l.length cA) l) (fun v => v = Value.agg #[.int .i64 (l.getD i (0, 0)).1, .int .i64 (l.getD i (0, 0)).2]) (fun v w' => OwnP w' B (.slice (some ⟨k, 0, none⟩) l.length cA) l) (fun w1 hS1 hJ1 => ?_) (fun w1 hS1 hJ1 => ?_) ?_ ?_
      · obtain ⟨q0, q1⟩ := hld0 w1 hJ1
        have HJ := Lib.hid hJ1; clear hJ1
        exact Eff.value (w' := w1) (v := Value.agg #[.int .i64 (l.getD 0 (0, 0)).1, .int .i64 (l.getD 0 (0, 0)).2]) (by go_simp) ⟨hS1, rfl, HJ.out⟩
      · obtain ⟨q0, q1⟩ := hJ1.cells2 (k := i) (by omega)
        have HJ := Lib.hid hJ1; clear hJ1
        exact Eff.value (w' := w1) (v := Value.agg #[.int .i64 (l.getD i (0, 0)).1, .int .i64 (l.getD i (0, 0)).2]) (by go_simp) ⟨hS1, rfl, HJ.out⟩
      · rintro v84 rfl
        rw [show List.erase [8, 13, 14, 15, 16, 17] 8 = [13, 14, 15, 16, 17] from rfl]; simp only [Act.put, List.setIfInBounds_toArray, List.set_cons_zero, List.set_cons_succ]
        refine TxtT.one 13 (by kernel_rfl) (by rw [List.getElem?_toArray]; rfl) (by rfl) (by rfl) (fun v => v = Value.agg #[.int .i64 (l.getD i (0, 0)).1, .int .i64 (l.getD i (0, 0)).2]) (fun v w' => OwnP w' B (.slice (some ⟨k, 0, none⟩) l.length cA) l) (fun w1 hS1 hJ1 => ?_) ?_
        · obtain ⟨q0, q1⟩ := hJ1.cells2 (k := i) (by omega)
          have HJ := Lib.hid hJ1; clear hJ1
          exact Eff.value (w' := w1) (v := Value.agg #[.int .i64 (l.getD i (0, 0)).1, .int .i64 (l.getD i (0, 0)).2]) (by go_simp) ⟨hS1, rfl, HJ.out⟩
        rintro v89 rfl
        rw [show List.erase [13, 14, 15, 16, 17] 13 = [14, 15, 16, 17] from rfl]; simp only [Act.put, List.setIfInBounds_toArray, List.set_cons_zero, List.set_cons_succ]
        refine TxtT.pure 14 (by rfl) (by rw [List.getElem?_toArray]; rfl) (by rfl) (by kernel_rfl) (by rfl) ?_; apply Exists.intro; refine ⟨fun w1 hS1 => ?_, ?_⟩; (focus (skip; go_simp; with_reducible rfl))
        rw [show List.erase [14, 15, 16, 17] 14 = [15, 16, 17] from rfl]; simp only [Act.put, List.setIfInBounds_toArray, List.set_cons_zero, List.set_cons_succ]
        refine TxtT.one 15 (by kernel_rfl) (by rw [List.getElem?_toArray]; rfl) (by rfl) (by rfl) (fun _ => True) (fun _ w' => ∃ l', l'.length = l.length ∧ OwnP w' B (.slice (some ⟨k, 0, none⟩) l.length cA) l') (fun w1 hS1 hJ1 => ?_) ?_
        · obtain ⟨k', hk', hBk', hkw', hkf'⟩ := hJ1.pos Hlp.out
          obtain rfl := addr_inj hk'
          have z0 := hkf' (i * 2); have z1 := hkf' (i * 2 + 1)
          obtain ⟨q0, q1⟩ := hJ1.cells2 (k := i) (by omega)
          have hap := hS1.apart hJ1
          have Hs2 := Lib.hid (hJ1.store2 i (l.getD 0 (0, 0)).1 (l.getD 0 (0, 0)).2)
          clear hJ1
          exact Eff.skip (w' := (w1.setCell ⟨k, i * 2, none⟩ (.int .i64 (l.getD 0 (0, 0)).1)).setCell ⟨k, i * 2 + 1, none⟩ (.int .i64 (l.getD 0 (0, 0)).2)) (by go_simp) ⟨(hS1.put hBk hap _).put hBk hap _, trivial, Hs2.out⟩
        rintro v15 _
        rw [show List.erase [15, 16, 17] 15 = [16, 17] from rfl]; simp only [Act.put]
        refine TxtT.pure 16 (by rfl) (by rw [List.getElem?_toArray]; rfl) (by rfl) (by kernel_rfl) (by rfl) ?_; apply Exists.intro; refine ⟨fun w1 hS1 => ?_, ?_⟩; (focus ((have z := Hlp.out); go_simp; with_reducible rfl))
        rw [show List.erase [16, 17] 16 = [17] from rfl]; simp only [Act.put, List.setIfInBounds_toArray, List.set_cons_zero, List.set_cons_succ]
        refine TxtT.one 17 (by kernel_rfl) (by rw [List.getElem?_toArray]; rfl) (by rfl) (by rfl) (fun _ => True) (fun _ w' => ∃ l', l'.length = l.length ∧ OwnP w' B (.slice (some ⟨k, 0, none⟩) l.length cA) l') (fun w1 hS1 hJ1 => ?_) ?_
        · obtain ⟨l', hl', hJ1⟩ := hJ1
          rw [← hl'] at hJ1
          have hlp' : 0 < l'.length := by have := Hlp.out; omega
          obtain ⟨k', hk', hBk', hkw', hkf'⟩ := hJ1.pos hlp'
          obtain rfl := addr_inj hk'
          have z0 := hkf' 0; have z1 := hkf' 1
          have hq := hJ1.cells2 (k := 0) hlp'
          have hs2 := hJ1.store2 0 (l.getD i (0, 0)).1 (l.getD i (0, 0)).2
          simp only [Nat.zero_mul, Nat.zero_add] at hq hs2
          obtain ⟨q0, q1⟩ := hq
          have hap := hS1.apart hJ1
          rw [hl'] at hs2
          have Hs2 := Lib.hid hs2
          clear hJ1 hl' hs2
          exact Eff.skip (w' := (w1.setCell ⟨k, 0, none⟩ (.int .i64 (l.getD i (0, 0)).1)).setCell ⟨k, 1, none⟩ (.int .i64 (l.getD i (0, 0)).2)) (by go_simp) ⟨(hS1.put hBk hap _).put hBk hap _, trivial, Hs2.out⟩
        rintro v17 _
        rw [show List.erase [17] 17 = [] from rfl]; simp only [Act.put]
        refine ⟨rfl, fun w1 hE hJ => ?_⟩
        obtain ⟨l', hl', hO⟩ := hJ
        clear hst3
        obtain ⟨f0, f1, f2, f3⟩ := hE.blk.two
        obtain ⟨r0, r1, r2, r3⟩ := hE.res.two
        obtain ⟨h1, h2⟩ := hE.ends hO l.length (by omega)
        have H1 := Lib.hid h1; have H2 := Lib.hid h2
        clear h1 h2
        go_wp2_with fail
        obtain ⟨e0, e1, _, _⟩ := H1.out.two
        refine bodyPost_ret (v := .agg #[.int .i64 N, .slice (some ⟨k, 0, none⟩) l.length cA]) (by simp [results, Tryd.results13, go_sem] at e0 e1 ⊢; simp [e0, e1]) rfl H2.out
      · rintro v89 rfl
        rw [show List.erase [8, 13, 14, 15, 16, 17] 13 = [8, 14, 15, 16, 17] from rfl]; simp only [Act.put, List.setIfInBounds_toArray, List.set_cons_zero, List.set_cons_succ]
        refine TxtT.one 8 (by kernel_rfl) (by rw [List.getElem?_toArray]; rfl) (by rfl) (by rfl) (fun v => v = Value.agg #[.int .i64 (l.getD 0 (0, 0)).1, .int .i64 (l.getD 0 (0, 0)).2]) (fun v w' => OwnP w' B (.slice (some ⟨k, 0, none⟩) l.length cA) l) (fun w1 hS1 hJ1 => ?_) ?_
        · obtain ⟨q0, q1⟩ := hld0 w1 hJ1
          have HJ := Lib.hid hJ1; clear hJ1
          exact Eff.value (w' := w1) (v := Value.agg #[.int .i64 (l.getD 0 (0, 0)).1, .int .i64 (l.getD 0 (0, 0)).2]) (by go_simp) ⟨hS1, rfl, HJ.out⟩
        rintro v84 rfl
        rw [show List.erase [8, 14, 15, 16, 17] 8 = [14, 15, 16, 17] from rfl]; simp only [Act.put, List.setIfInBounds_toArray, List.set_cons_zero, List.set_cons_succ]
        refine TxtT.pure 14 (by rfl) (by rw [List.getElem?_toArray]; rfl) (by rfl) (by kernel_rfl) (by rfl) ?_; apply Exists.intro; refine ⟨fun w1 hS1 => ?_, ?_⟩; (focus (skip; go_simp; with_reducible rfl))
        rw [show List.erase [14, 15, 16, 17] 14 = [15, 16, 17] from rfl]; simp only [Act.put, List.setIfInBounds_toArray, List.set_cons_zero, List.set_cons_succ]
        refine TxtT.one 15 (by kernel_rfl) (by rw [List.getElem?_toArray]; rfl) (by rfl) (by rfl) (fun _ => True) (fun _ w' => ∃ l', l'.length = l.length ∧ OwnP w' B (.slice (some ⟨k, 0, none⟩) l.length cA) l') (fun w1 hS1 hJ1 => ?_) ?_
        · obtain ⟨k', hk', hBk', hkw', hkf'⟩ := hJ1.pos Hlp.out
          obtain rfl := addr_inj hk'
          have z0 := hkf' (i * 2); have z1 := hkf' (i * 2 + 1)
          obtain ⟨q0, q1⟩ := hJ1.cells2 (k := i) (by omega)
          have hap := hS1.apart hJ1
          have Hs2 := Lib.hid (hJ1.store2 i (l.getD 0 (0, 0)).1 (l.getD 0 (0, 0)).2)
          clear hJ1
          exact Eff.skip (w' := (w1.setCell ⟨k, i * 2, none⟩ (.int .i64 (l.getD 0 (0, 0)).1)).setCell ⟨k, i * 2 + 1, none⟩ (.int .i64 (l.getD 0 (0, 0)).2)) (by go_simp) ⟨(hS1.put hBk hap _).put hBk hap _, trivial, Hs2.out⟩
        rintro v15 _
        rw [show List.erase [15, 16, 17] 15 = [16, 17] from rfl]; simp only [Act.put]
        refine TxtT.pure 16 (by rfl) (by rw [List.getElem?_toArray]; rfl) (by rfl) (by kernel_rfl) (by rfl) ?_; apply Exists.intro; refine ⟨fun w1 hS1 => ?_, ?_⟩; (focus ((have z := Hlp.out); go_simp; with_reducible rfl))
        rw [show List.erase [16, 17] 16 = [17] from rfl]; simp only [Act.put, List.setIfInBounds_toArray, List.set_cons_zero, List.set_cons_succ]
        refine TxtT.one 17 (by kernel_rfl) (by rw [List.getElem?_toArray]; rfl) (by rfl) (by rfl) (fun _ => True) (fun _ w' => ∃ l', l'.length = l.length ∧ OwnP w' B (.slice (some ⟨k, 0, none⟩) l.length cA) l') (fun w1 hS1 hJ1 => ?_) ?_
        · obtain ⟨l', hl', hJ1⟩ := hJ1
          rw [← hl'] at hJ1
          have hlp' : 0 < l'.length := by have := Hlp.out; omega
          obtain ⟨k', hk', hBk', hkw', hkf'⟩ := hJ1.pos hlp'
          obtain rfl := addr_inj hk'
          have z0 := hkf' 0; have z1 := hkf' 1
          have hq := hJ1.cells2 (k := 0) hlp'
          have hs2 := hJ1.store2 0 (l.getD i (0, 0)).1 (l.getD i (0, 0)).2
          simp only [Nat.zero_mul, Nat.zero_add] at hq hs2
          obtain ⟨q0, q1⟩ := hq
          have hap := hS1.apart hJ1
          rw [hl'] at hs2
          have Hs2 := Lib.hid hs2
          clear hJ1 hl' hs2
          exact Eff.skip (w' := (w1.setCell ⟨k, 0, none⟩ (.int .i64 (l.getD i (0, 0)).1)).setCell ⟨k, 1, none⟩ (.int .i64 (l.getD i (0, 0)).2)) (by go_simp) ⟨(hS1.put hBk hap _).put hBk hap _, trivial, Hs2.out⟩
        rintro v17 _
        rw [show List.erase [17] 17 = [] from rfl]; simp only [Act.put]
        refine ⟨rfl, fun w1 hE hJ => ?_⟩
        obtain ⟨l', hl', hO⟩ := hJ
        clear hst3
        obtain ⟨f0, f1, f2, f3⟩ := hE.blk.two
        obtain ⟨r0, r1, r2, r3⟩ := hE.res.two
        obtain ⟨h1, h2⟩ := hE.ends hO l.length (by omega)
        have H1 := Lib.hid h1; have H2 := Lib.hid h2
        clear h1 h2
        go_wp2_with fail
        obtain ⟨e0, e1, _, _⟩ := H1.out.two
        refine bodyPost_ret (v := .agg #[.int .i64 N, .slice (some ⟨k, 0, none⟩) l.length cA]) (by simp [results, Tryd.results13, go_sem] at e0 e1 ⊢; simp [e0, e1]) rfl H2.out
    case inr.inr.inr.inr =>
      go_wp2_with fail
      refine (n_any p 10 w3 hst3.src (by omega) (by omega)).mono ?_
      rintro e w4 ⟨x, rfl, hx1, hx2, hs4, hg4⟩
      have hst4 := hst3.read hs4 hg4
      have hov4 : OwnP w4 B (.slice (some ⟨k, 0, none⟩) l.length cA) l := ownsRow_far Hov3.out hg4 hltB
      clear hst3 hs4 hg4 f0 f1 f2 f3
      obtain ⟨f0, f1, f2, f3⟩ := hst4.blk.two
      obtain ⟨r0, r1, r2, r3⟩ := hst4.res.two
      have hE := hst4.store0 (x - 1)
      have hO : OwnP (w4.setCell ⟨g5, 0, none⟩ (.int .i64 (x - 1))) B (.slice (some ⟨k, 0, none⟩) l.length cA) l := World.ownsRow.kept hov4 (grownBy_setCell w4 g5 0 _) (.inr fun e => hov4.apartG hst4.blk e.symm)
      obtain ⟨h1, h2⟩ := hE.ends hO l.length (by omega)
      obtain ⟨a0, a1, a2, a3⟩ := hE.blk.two
      obtain ⟨b0, b1, b2, b3⟩ := hE.res.two
      have H1 := Lib.hid h1; have H2 := Lib.hid h2
      clear h1 h2 hov4 hO
      go_wp2_with fail
      obtain ⟨e0, e1, _, _⟩ := H1.out.two
      refine bodyPost_ret (v := .agg #[.int .i64 (x - 1), .slice (some ⟨k, 0, none⟩) l.length cA]) (by simp [results, Tryd.results13, go_sem] at e0 e1 ⊢; simp [e0, e1]) rfl H2.out
end Go.Proofs.YtkflanjlnbdkmaaDoor
