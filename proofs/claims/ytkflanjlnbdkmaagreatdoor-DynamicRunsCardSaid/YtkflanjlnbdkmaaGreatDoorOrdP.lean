/- Changes of different attacks, in any order; rows of changes. -/
import Derived.Test.YtkflanjlnbdkmaaGreatDoorDyX6
namespace Go.Proofs.YtkflanjlnbdkmaaGreatDoor
open Go.ChangeShapes Go.WideShapes Go.ChangeAt Go.RowKit

def chgS (s : Nat × List (Int × Int) × Nat) (q : Int × Int × Int) : Nat × List (Int × Int) × Nat :=
  if chkE s.1 s.2.1 q.1 q.2.1 q.2.2 = 0 then (chN s.1 q.1, chL s.1 s.2.1 q.1 q.2.1 q.2.2, s.2.2 + 1) else s
/-- the state and the number of changes after a list of changes -/
def chgR (n : Nat) (l : List (Int × Int)) (cs : List (Int × Int × Int)) : Nat × List (Int × Int) × Nat := cs.foldl chgS (n, l, 0)
theorem chgR_snoc (n : Nat) (l : List (Int × Int)) (cs : List (Int × Int × Int)) (q : Int × Int × Int) : chgR n l (cs ++ [q]) = chgS (chgR n l cs) q := by
  unfold chgR; rw [List.foldl_append]; rfl
def namB (cs : List (Int × Int × Int)) (a b : Nat) : Bool := cs.any fun q => q.2.1 == (a : Int) && q.2.2 == (b : Int)
def togL (n : Nat) (l : List (Int × Int)) (cs : List (Int × Int × Int)) : List (Int × Int) := gridL n fun a b => hasB l a b != namB cs a b
/-- changes of different attacks, each of which the graph allows -/
def TogOk (n : Nat) (l : List (Int × Int)) (cs : List (Int × Int × Int)) : Prop :=
  (∀ q ∈ cs, ∃ x y : Nat, x < n ∧ y < n ∧ q = (if hasB l x y = true then 2 else 1, (x : Int), (y : Int))) ∧ cs.Nodup
theorem gridL_ext {n : Nat} {p q : Nat → Nat → Bool} (h : ∀ a b, a < n → b < n → p a b = q a b) : gridL n p = gridL n q :=
  sortedP_ext _ _ (gridR_sorted _ _ _) (gridR_sorted _ _ _) fun x => by
    rw [mem_gridL, mem_gridL]
    constructor <;> rintro ⟨a, b, ha, hb, e, r⟩
    · exact ⟨a, b, ha, hb, by rw [← h a b ha hb]; exact e, r⟩
    · exact ⟨a, b, ha, hb, by rw [h a b ha hb]; exact e, r⟩
theorem hasB_grid {n : Nat} {p : Nat → Nat → Bool} {a b : Nat} (ha : a < n) (hb : b < n) : hasB (gridL n p) a b = p a b := by
  rw [Bool.eq_iff_iff, hasB_iff, mem_gridL]
  constructor
  · rintro ⟨x, y, _, _, h, e⟩
    injection e with e1 e2
    have : a = x := by omega
    have : b = y := by omega
    subst x; subst y
    exact h
  · exact fun h => ⟨a, b, ha, hb, h, rfl⟩
theorem grid_self {n : Nat} {l : List (Int × Int)} (hv : Vld n l) : gridL n (fun a b => hasB l a b) = l :=
  sortedP_ext _ _ (gridR_sorted _ _ _) hv.2 fun q => by
    rw [mem_gridL]
    constructor
    · rintro ⟨a, b, _, _, h, rfl⟩
      exact hasB_iff.1 h
    · intro hq
      obtain ⟨a, b, ha, hb, rfl⟩ := vld_mem hv hq
      exact ⟨a, b, ha, hb, hasB_iff.2 hq, rfl⟩
theorem tog_nil {n : Nat} {l : List (Int × Int)} (hv : Vld n l) : togL n l [] = l := by
  unfold togL namB
  rw [← grid_self hv]
  refine (gridL_ext fun a b ha hb => ?_)
  rw [grid_self hv]
  simp
theorem tog_step {n : Nat} {l : List (Int × Int)} {pre : List (Int × Int × Int)} {q : Int × Int × Int} (h : TogOk n l (pre ++ [q])) (m : Nat) :
    chgS (n, togL n l pre, m) q = (n, togL n l (pre ++ [q]), m + 1) := by
  obtain ⟨h1, h2⟩ := h
  obtain ⟨x, y, hx, hy, hq⟩ := h1 q (by simp)
  have hno : namB pre x y = false := by
    cases hh : namB pre x y
    · rfl
    · exfalso
      unfold namB at hh
      rw [List.any_eq_true] at hh
      obtain ⟨p, hp, he⟩ := hh
      rw [Bool.and_eq_true, beq_iff_eq, beq_iff_eq] at he
      obtain ⟨x', y', _, _, hp'⟩ := h1 p (by simp [hp])
      have e1 : x' = x := by have := he.1; rw [hp'] at this; simp only at this; omega
      have e2 : y' = y := by have := he.2; rw [hp'] at this; simp only at this; omega
      rw [e1, e2] at hp'
      have : p = q := by rw [hp', hq]
      rw [List.nodup_append] at h2
      exact h2.2.2 p hp q (by simp) this
  have hL : ∀ a b, a < n → b < n → hasB (togL n l pre) a b = (hasB l a b != namB pre a b) := fun a b ha hb => hasB_grid ha hb
  have hLx := hL x y hx hy
  rw [hno] at hLx
  have hgr : ∀ k : Int, chN n k = n → (∀ a b : Nat, a < n → b < n → chgB (togL n l pre) k x y a b = (hasB l a b != namB (pre ++ [q]) a b)) → chL n (togL n l pre) k x y = togL n l (pre ++ [q]) := fun k e he => by
    unfold chL
    rw [e]
    exact gridL_ext he
  have hnm : ∀ a b : Nat, namB (pre ++ [q]) a b = (namB pre a b || ((x : Int) == (a : Int) && (y : Int) == (b : Int))) := fun a b => by
    unfold namB
    rw [List.any_append, hq]
    simp
  unfold chgS
  cases hh : hasB l x y
  · rw [hh] at hq hLx
    simp only [Bool.false_eq_true, if_false] at hq
    subst hq
    simp only
    rw [if_pos (chk1 hx hy (by simpa using hLx)), chN1, hgr 1 (chN1 n) fun a b ha hb => ?_]
    rw [hnm]
    unfold chgB
    rw [hL a b ha hb]
    by_cases e : x = a ∧ y = b
    · obtain ⟨rfl, rfl⟩ := e
      rw [hh, hno]; simp
    · have e' : ((x : Int) == (a : Int) && (y : Int) == (b : Int)) = false := by
        rw [Bool.and_eq_false_iff, beq_eq_false_iff_ne, beq_eq_false_iff_ne]; omega
      rw [e']; simp
  · rw [hh] at hq hLx
    simp only [if_true] at hq
    subst hq
    simp only
    rw [if_pos (chk2 hx hy (by simpa using hLx)), chN2, hgr 2 (chN2 n) fun a b ha hb => ?_]
    rw [hnm]
    unfold chgB
    rw [hL a b ha hb]
    by_cases e : x = a ∧ y = b
    · obtain ⟨rfl, rfl⟩ := e
      rw [hh, hno]; simp
    · have e' : ((x : Int) == (a : Int) && (y : Int) == (b : Int)) = false := by
        rw [Bool.and_eq_false_iff, beq_eq_false_iff_ne, beq_eq_false_iff_ne]; omega
      rw [e']; simp
theorem TogOk.take {n : Nat} {l : List (Int × Int)} {cs : List (Int × Int × Int)} (h : TogOk n l cs) (k : Nat) : TogOk n l (cs.take k) :=
  ⟨fun q hq => h.1 q (List.mem_of_mem_take hq), h.2.sublist (List.take_sublist k cs)⟩
theorem run_tog {n : Nat} {l : List (Int × Int)} {cs : List (Int × Int × Int)} (hv : Vld n l) (h : TogOk n l cs) : chgR n l cs = (n, togL n l cs, cs.length) := by
  have key : ∀ k, k ≤ cs.length → chgR n l (cs.take k) = (n, togL n l (cs.take k), k) := fun k => by
    induction k with
    | zero => intro _; rw [List.take_zero, tog_nil hv]; rfl
    | succ k ih =>
      intro hk
      have hk' : k < cs.length := by omega
      have ht := h.take (k + 1)
      rw [List.take_succ_eq_append_getElem hk'] at ht ⊢
      rw [chgR_snoc, ih (by omega), tog_step ht]
  have := key cs.length (Nat.le_refl _)
  rwa [List.take_length] at this
theorem tog_rev (n : Nat) (l : List (Int × Int)) (cs : List (Int × Int × Int)) : togL n l cs.reverse = togL n l cs := by
  unfold togL namB
  exact gridL_ext fun a b _ _ => by rw [List.any_reverse]
theorem TogOk.rev {n : Nat} {l : List (Int × Int)} {cs : List (Int × Int × Int)} (h : TogOk n l cs) : TogOk n l cs.reverse :=
  ⟨fun q hq => h.1 q (List.mem_reverse.1 hq), by have h2 := h.2; unfold List.Nodup at h2 ⊢; rw [List.pairwise_reverse]; exact h2.imp fun h e => h e.symm⟩
theorem TogOk.nil (n : Nat) (l : List (Int × Int)) : TogOk n l [] := ⟨fun q hq => (by cases hq), List.Pairwise.nil⟩
theorem TogOk.snoc {n : Nat} {l : List (Int × Int)} {cs : List (Int × Int × Int)} {x y : Nat} {k : Int} (h : TogOk n l cs) (hx : x < n) (hy : y < n) (hk : k = if hasB l x y = true then 2 else 1) (hno : (k, (x : Int), (y : Int)) ∉ cs) : TogOk n l (cs ++ [(k, (x : Int), (y : Int))]) := by
  refine ⟨fun q hq => ?_, ?_⟩
  · rw [List.mem_append, List.mem_singleton] at hq
    rcases hq with hq | rfl
    · exact h.1 q hq
    · exact ⟨x, y, hx, hy, by rw [hk]⟩
  · rw [List.nodup_append]
    refine ⟨h.2, by simp, fun a ha b hb e => ?_⟩
    rw [List.mem_singleton] at hb
    subst hb; subst e
    exact hno ha

/-! Rows of changes. -/
def RC (w : World) (A : Option Addr) (cs : List (Int × Int × Int)) : Prop :=
  ∀ k, k < cs.length → ∃ b o, A = some ⟨b, o, none⟩ ∧ w.cell? ⟨b, o + k * 3, none⟩ = some (.int .i64 (cs.getD k (0, 0, 0)).1) ∧ w.cell? ⟨b, o + k * 3 + 1, none⟩ = some (.int .i64 (cs.getD k (0, 0, 0)).2.1) ∧ w.cell? ⟨b, o + k * 3 + 2, none⟩ = some (.int .i64 (cs.getD k (0, 0, 0)).2.2)
theorem RC.nil (w : World) (A : Option Addr) : RC w A [] := fun k hk => absurd hk (by simp)
theorem RC.below {w w' : World} {A : Option Addr} {cs : List (Int × Int × Int)} (h : RC w A cs) (hb : Below w.heap.size w w') : RC w' A cs := by
  intro k hk
  obtain ⟨b, o, hA, hc, hd, he⟩ := h k hk
  exact ⟨b, o, hA, (hb.cell (lt_of_cell hc)).trans hc, (hb.cell (lt_of_cell hd)).trans hd, (hb.cell (lt_of_cell he)).trans he⟩
theorem RC.grown {w w' : World} {A : Option Addr} {cs : List (Int × Int × Int)} {p : Nat} (h : RC w A cs) (hg : w.grownBy w' (some p)) (hp : ∀ b o, A = some ⟨b, o, none⟩ → b ≠ p) : RC w' A cs := by
  intro k hk
  obtain ⟨b, o, hA, hc, hd, he⟩ := h k hk
  have hne := hp b o hA
  have e := fun (i : Nat) (v : Value) (hc : w.cell? ⟨b, i, none⟩ = some v) => show w'.cell? ⟨b, i, none⟩ = some v by
    rw [← hc]; unfold World.cell?; rw [show w'.heap[b]? = w.heap[b]? from hg.block b (lt_of_cell hc) (fun e => by injection e with e; exact hne e)]
  exact ⟨b, o, hA, e _ _ hc, e _ _ hd, e _ _ he⟩
def flatC (cs : List (Int × Int × Int)) : List Value := cs.flatMap fun p => [.int .i64 p.1, .int .i64 p.2.1, .int .i64 p.2.2]
theorem flatC_length (l : List (Int × Int × Int)) : (flatC l).length = l.length * 3 := by
  unfold flatC
  induction l with
  | nil => rfl
  | cons p l ih => rw [List.flatMap_cons, List.length_append, ih]; simp; omega
theorem flatC_at (l : List (Int × Int × Int)) (k : Nat) (h : k < l.length) : (flatC l)[k * 3]? = some (.int .i64 (l.getD k (0, 0, 0)).1) ∧ (flatC l)[k * 3 + 1]? = some (.int .i64 (l.getD k (0, 0, 0)).2.1) ∧ (flatC l)[k * 3 + 2]? = some (.int .i64 (l.getD k (0, 0, 0)).2.2) := by
  induction l generalizing k with
  | nil => simp at h
  | cons p l ih =>
    cases k with
    | zero => simp [flatC]
    | succ k =>
      have := ih k (by simpa using h)
      have e : (k + 1) * 3 = k * 3 + 3 := by omega
      simp only [flatC, List.flatMap_cons] at this ⊢
      rw [e]
      simp only [List.cons_append, List.nil_append, List.getElem?_cons_succ, List.getD_cons_succ] at this ⊢
      exact this
/-- the slice v, made by the call, holds the changes of the list -/
def OwnC (w : World) (base : Nat) (v : Value) (l : List (Int × Int × Int)) : Prop := w.ownsRow base 29 3 v l.length (flatC l)
theorem OwnC.nil (w : World) (base : Nat) : OwnC w base (.slice none 0 0) [] := World.ownsRow_nil w base _ _
theorem OwnC.form {w : World} {b : Nat} {v : Value} {l : List (Int × Int × Int)} (h : OwnC w b v l) : ∃ A c, v = .slice A l.length c ∧ RC w A l := by
  have h' := h
  obtain ⟨h1, h2⟩ := h
  rcases h2 with ⟨rfl, hn⟩ | ⟨g, cap, cur, rfl, hg, r⟩
  · have : l = [] := List.eq_nil_of_length_eq_zero hn
    subst this
    exact ⟨none, 0, rfl, RC.nil _ _⟩
  · refine ⟨_, _, rfl, fun k hk => ?_⟩
    have h0 := flatC_at l k hk
    have c0 := h'.cells (g := g) rfl _ _ h0.1
    have c1 := h'.cells (g := g) rfl _ _ h0.2.1
    have c2 := h'.cells (g := g) rfl _ _ h0.2.2
    have e : ∀ i, (⟨g, 0, none⟩ : Addr).add i = ⟨g, 0 + i, none⟩ := fun i => by unfold Addr.add; split <;> simp_all
    rw [e] at c0 c1 c2
    exact ⟨g, 0, rfl, c0, c1, c2⟩
theorem OwnC.below {w w' : World} {b : Nat} {v : Value} {l : List (Int × Int × Int)} (h : OwnC w b v l) (hb : Below w.heap.size w w') : OwnC w' b v l := ownsRow_below h hb
theorem OwnC.grown {w w' : World} {b : Nat} {v : Value} {l : List (Int × Int × Int)} {p : Nat} (h : OwnC w b v l) (hg : w.grownBy w' (some p)) (hp : p < b) : OwnC w' b v l :=
  World.ownsRow.kept h hg (.inr fun e => by have := (World.ownsRow.lt h p e).1; omega)
theorem new_chg (w : World) (x y z : Value) (t : TypeId) : ∀ j u, [x, y, z][j]? = some u → (w.alloc (.cells #[x, y, z] t)).cell? ((⟨w.heap.size, 0, none⟩ : Addr).add j) = some u := by
  intro j u hj
  match j, hj with
  | 0, hj =>
    simp at hj; subst hj
    have := (Blk.new w t #[x, y, z]).cell 0
    simp [Addr.add, this]
  | 1, hj =>
    simp at hj; subst hj
    have := (Blk.new w t #[x, y, z]).cell 1
    simp [Addr.add, this]
  | 2, hj =>
    simp at hj; subst hj
    have := (Blk.new w t #[x, y, z]).cell 2
    simp [Addr.add, this]
theorem info_chg : (Tryz.prog.info? 29).map (fun i => (i.zero, i.size, i.bytes)) = some (some (.agg #[.int .i64 0, .int .i64 0, .int .i64 0]), 3, 24) := by kernel_rfl
/-- 'out = append(out, a change)' -/
theorem wpList_appC {ops : Array Oper} {rest : List Oper} {o : Oper} {a : Act} {Q : Exit → Act → World → Prop} (hgd : o.guard = none) (s x : Operand)
    (ho : o.op = .call { callee := .builtin .append, args := #[s, x], argTypes := #[40, 40] })
    (X : World) (base : Nat) (v : Value) (l : List (Int × Int × Int)) (k y z : Int) (hown : OwnC X base v l) (hs : a.eval s = v) (hx : a.eval x = .slice (some ⟨X.heap.size, 0, none⟩) 1 1)
    (hlen : l.length ≤ 1000000) (hbase : base ≤ X.heap.size)
    (h : ∀ v' w', OwnC w' base v' (l ++ [(k, y, z)]) → Below base X w' → X.grownBy w' v.ownBlock → wpList Tryz.prog ops Q rest (a.put o.dst v') w') :
    wpList Tryz.prog ops Q (o :: rest) a (X.alloc (.cells #[.int .i64 k, .int .i64 y, .int .i64 z] 29)) := by
  obtain ⟨i0, hi, hz0, hz1, hz2⟩ := info_parts info_chg
  refine wpList_append_own _ hgd s x 40 ho base 29 i0 _ 3 24 Tryz.underlying40 hi hz0 hz1 hz2 rfl (by decide) v l.length _ hs (World.ownsRow.alloc hown _) ⟨X.heap.size, 0, none⟩ 1 1 [.int .i64 k, .int .i64 y, .int .i64 z] hx rfl (new_chg _ _ _ _ _)
    (by intro u hu; simp at hu; rcases hu with rfl | rfl | rfl <;> rfl) (by unfold maxLen; omega) (by omega) (by simp; omega) ?_
  intro v' w1 hown' hgrow _
  refine h v' w1 ?_ ?_ ?_
  · unfold OwnC; rw [List.length_append]; simp only [flatC, List.flatMap_append]; exact hown'
  · exact ((Below.refl base X).alloc hbase _).grown hgrow (by simp; omega) (fun k' hk => ((World.ownsRow.alloc hown (.cells #[.int .i64 k, .int .i64 y, .int .i64 z] 29)).lt k' hk).1)
  · exact ⟨hgrow.os, hgrow.tape, hgrow.output, Nat.le_trans (by simp) hgrow.size, fun k hk hne => (hgrow.block k (by simp; omega) hne).trans (Below.heap_alloc _ _ _ hk)⟩
theorem und_chg : Tryz.prog.underlying 29 = some (.struct (Tryz.prog.fieldsOf 29)) := by kernel_rfl
theorem run_eqlC (k f t k' x y : Int) (w : World) : (binOp .eql 29 (.agg #[.int .i64 k, .int .i64 f, .int .i64 t]) (.agg #[.int .i64 k', .int .i64 x, .int .i64 y])).run Tryz.prog w = .ok (.bool (k == k' && (f == x && t == y))) w := by
  have u3 := Tryz.underlying3
  have a3 := Tryz.isAgg3
  have z3 := Tryz.sizeOf3
  have hp : Tryz.prog.stoodInHeld 29 = false := by kernel_rfl
  rw [run_eql_struct, show (10000 : Nat) = 9999 + 1 from rfl, run_equalIn_agg w 9999 29 _ _ und_chg hp]
  simp only [Program.fieldsOf, Tryz.underlying29]
  go_simp
  by_cases h0 : k = k' <;> by_cases h1 : f = x <;> by_cases h2 : t = y <;> simp [h0, h1, h2]
end Go.Proofs.YtkflanjlnbdkmaaGreatDoor
