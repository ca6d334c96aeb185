/- Rows of packets: read, owned at any place of a block, appended to, taken from in front. -/
import Derived.Test.YthkknlnfdckdfaaPt5
import Derived.Deep.Upon
namespace Go.Proofs.Ythkknlnfdckdfaa
open Go.ChangeShapes Go.WideShapes Go.ChangeAt Go.RowKit

/-- a packet: whether it is an acknowledgement, its number, its value -/
abbrev Pk := Bool × Int × Int
def pk (l : List Pk) (i : Nat) : Pk := l.getD i (false, 0, 0)
theorem pk_at {l : List Pk} {i : Nat} (h : i < l.length) : pk l i = l[i] := by
  unfold pk; rw [List.getD_eq_getElem?_getD, List.getElem?_eq_getElem h]; rfl
theorem pk_mem {l : List Pk} {i : Nat} (h : i < l.length) : pk l i ∈ l := by rw [pk_at h]; exact List.getElem_mem h
def RK (w : World) (A : Option Addr) (l : List Pk) : Prop :=
  ∀ k, k < l.length → ∃ b o, A = some ⟨b, o, none⟩ ∧ w.cell? ⟨b, o + k * 3, none⟩ = some (.bool (pk l k).1) ∧ w.cell? ⟨b, o + k * 3 + 1, none⟩ = some (.int .i64 (pk l k).2.1) ∧ w.cell? ⟨b, o + k * 3 + 2, none⟩ = some (.int .i64 (pk l k).2.2)
theorem RK.nil (w : World) (A : Option Addr) : RK w A [] := fun k hk => absurd hk (by simp)
theorem RK.below {w w' : World} {A : Option Addr} {l : List Pk} (h : RK w A l) (hb : Below w.heap.size w w') : RK w' A l := by
  intro k hk
  obtain ⟨b, o, hA, hc, hd, he⟩ := h k hk
  exact ⟨b, o, hA, (hb.cell (lt_of_cell hc)).trans hc, (hb.cell (lt_of_cell hd)).trans hd, (hb.cell (lt_of_cell he)).trans he⟩
def flatK (l : List Pk) : List Value := l.flatMap fun p => [.bool p.1, .int .i64 p.2.1, .int .i64 p.2.2]
theorem flatK_length (l : List Pk) : (flatK l).length = l.length * 3 := by
  unfold flatK
  induction l with
  | nil => rfl
  | cons p l ih => rw [List.flatMap_cons, List.length_append, ih]; simp; omega
theorem flatK_at (l : List Pk) (k : Nat) (h : k < l.length) : (flatK l)[k * 3]? = some (.bool (pk l k).1) ∧ (flatK l)[k * 3 + 1]? = some (.int .i64 (pk l k).2.1) ∧ (flatK l)[k * 3 + 2]? = some (.int .i64 (pk l k).2.2) := by
  induction l generalizing k with
  | nil => simp at h
  | cons p l ih =>
    cases k with
    | zero => simp [flatK, pk]
    | succ k =>
      have := ih k (by simpa using h)
      have e : (k + 1) * 3 = k * 3 + 3 := by omega
      simp only [flatK, List.flatMap_cons, pk] at this ⊢
      rw [e]
      simp only [List.cons_append, List.nil_append, List.getElem?_cons_succ, List.getD_cons_succ] at this ⊢
      exact this
theorem flatK_append (l m : List Pk) : flatK (l ++ m) = flatK l ++ flatK m := by simp [flatK]
theorem flatK_drop (l : List Pk) (i : Nat) (hi : i ≤ l.length) : (flatK l).drop (i * 3) = flatK (l.drop i) := by
  conv => lhs; rw [← List.take_append_drop i l, flatK_append]
  rw [List.drop_append_of_le_length (by rw [flatK_length, List.length_take]; omega), List.drop_of_length_le (by rw [flatK_length, List.length_take]; omega), List.nil_append]
theorem flatK_take (l : List Pk) (i : Nat) (hi : i ≤ l.length) : (flatK l).take (i * 3) = flatK (l.take i) := by
  conv => lhs; rw [← List.take_append_drop i l, flatK_append]
  rw [List.take_append_of_le_length (by rw [flatK_length, List.length_take]; omega), List.take_of_length_le (by rw [flatK_length, List.length_take]; omega)]
theorem flatK_one (l : List Pk) : ∀ v ∈ flatK l, v.oneCell' = true := by
  intro u hu
  unfold flatK at hu
  rw [List.mem_flatMap] at hu
  obtain ⟨y, _, hy⟩ := hu
  simp at hy
  rcases hy with rfl | rfl | rfl <;> rfl
theorem rk_of_flat {w : World} {g o : Nat} {l : List Pk} (h : ∀ j u, (flatK l)[j]? = some u → w.cell? ⟨g, o + j, none⟩ = some u) : RK w (some ⟨g, o, none⟩) l := fun k hk => by
  obtain ⟨h0, h1, h2⟩ := flatK_at l k hk
  exact ⟨g, o, rfl, h _ _ h0, by rw [Nat.add_assoc]; exact h _ _ h1, by rw [Nat.add_assoc]; exact h _ _ h2⟩
theorem flat_of_rk {w : World} {A : Option Addr} {l : List Pk} (h : RK w A l) : ∀ ad, A = some ad → ∀ j u, (flatK l)[j]? = some u → w.cell? (ad.add j) = some u := by
  intro ad hA j u hj
  have hjl : j < l.length * 3 := by rw [← flatK_length]; exact (List.getElem?_eq_some_iff.1 hj).1
  obtain ⟨b, o, hA', hc, hd, he⟩ := h (j / 3) (by omega)
  obtain ⟨f0, f1, f2⟩ := flatK_at l (j / 3) (by omega)
  rw [hA] at hA'; injection hA' with hA'; subst hA'
  rw [show (⟨b, o, none⟩ : Addr).add j = ⟨b, o + j, none⟩ by unfold Addr.add; split <;> simp_all]
  have hm : j % 3 = 0 ∨ j % 3 = 1 ∨ j % 3 = 2 := by omega
  rcases hm with hm | hm | hm
  · have e : j = j / 3 * 3 := by omega
    rw [e] at hj ⊢; rw [f0] at hj; rw [hc]; exact hj
  · have e : j = j / 3 * 3 + 1 := by omega
    rw [e] at hj ⊢; rw [f1] at hj; rw [← Nat.add_assoc, hd]; exact hj
  · have e : j = j / 3 * 3 + 2 := by omega
    rw [e] at hj ⊢; rw [f2] at hj; rw [← Nat.add_assoc, he]; exact hj

/-- v holds the packets l in a block from base on, at any place of it -/
def OwnK (w : World) (base : Nat) (v : Value) (l : List Pk) : Prop := (v = .slice none 0 0 ∧ l = []) ∨
  ∃ g o cap cur, v = .slice (some ⟨g, o, none⟩) l.length cap ∧ base ≤ g ∧ Blk w g 94 cur ∧ l.length ≤ cap ∧ cap ≤ maxLen ∧ o + cap * 3 ≤ cur.size ∧ ∀ j u, (flatK l)[j]? = some u → w.cell? ⟨g, o + j, none⟩ = some u
theorem OwnK.nil (w : World) (base : Nat) : OwnK w base (.slice none 0 0) [] := .inl ⟨rfl, rfl⟩
theorem OwnK.lt {w : World} {b : Nat} {v : Value} {l : List Pk} (h : OwnK w b v l) : ∀ k, v.ownBlock = some k → b ≤ k ∧ k < w.heap.size := by
  intro k hk
  rcases h with ⟨rfl, _⟩ | ⟨g, o, cap, cur, rfl, h1, h2, _⟩
  · cases hk
  · injection hk with hk; subst hk; exact ⟨h1, h2.lt⟩
theorem OwnK.kept {w w' : World} {b : Nat} {v : Value} {l : List Pk} {row : Option Nat} (h : OwnK w b v l) (hg : w.grownBy w' row) (hne : ∀ k, v.ownBlock = some k → some k ≠ row) : OwnK w' b v l := by
  rcases h with h | ⟨g, o, cap, cur, rfl, h1, h2, h3, h4, h5, h6⟩
  · exact .inl h
  · have e := hg.block g h2.lt (hne g rfl)
    exact .inr ⟨g, o, cap, cur, rfl, h1, e.trans h2, h3, h4, h5, fun j u hu => (World.cell?_of_block (a := ⟨g, o + j, none⟩) e).trans (h6 j u hu)⟩
theorem OwnK.below {w w' : World} {b : Nat} {v : Value} {l : List Pk} (h : OwnK w b v l) (hb : Below w.heap.size w w') : OwnK w' b v l := h.kept (grownBy_of_below hb none) fun _ _ e => by cases e
theorem OwnK.far {w : World} {b : Nat} {v : Value} {l : List Pk} (h : OwnK w b v l) {g : Nat} (hne : v.ownBlock ≠ some g) (i : Nat) (u : Value) : OwnK (w.setCell ⟨g, i, none⟩ u) b v l :=
  h.kept (grownBy_setCell w g i u) fun _ hk e => hne (hk.trans e)
theorem OwnK.mono {w : World} {b b' : Nat} {v : Value} {l : List Pk} (h : OwnK w b v l) (hb : b' ≤ b) : OwnK w b' v l := by
  rcases h with h | ⟨g, o, cap, cur, e, h1, r⟩
  · exact .inl h
  · exact .inr ⟨g, o, cap, cur, e, Nat.le_trans hb h1, r⟩
theorem OwnK.ne {w : World} {b : Nat} {v : Value} {l : List Pk} (h : OwnK w b v l) {g : Nat} {t : TypeId} {cs : Array Value} (hB : Blk w g t cs) (ht : t ≠ 94) : v.ownBlock ≠ some g := by
  rcases h with ⟨rfl, _⟩ | ⟨g', o, cap, cur, rfl, h1, h2, _⟩
  · intro e; cases e
  · intro e
    injection e with e; subst e
    unfold Blk at h2 hB
    rw [h2] at hB
    injection hB with hB; injection hB with _ hB
    exact ht hB.symm
theorem OwnK.form {w : World} {b : Nat} {v : Value} {l : List Pk} (h : OwnK w b v l) : ∃ A c, v = .slice A l.length c ∧ RK w A l ∧ (A = none → l = [] ∧ c = 0) ∧ l.length ≤ c := by
  rcases h with ⟨rfl, rfl⟩ | ⟨g, o, cap, cur, rfl, h1, h2, h3, h4, h5, h6⟩
  · exact ⟨none, 0, rfl, RK.nil _ _, fun _ => ⟨rfl, rfl⟩, Nat.le_refl _⟩
  · exact ⟨_, cap, rfl, rk_of_flat h6, (fun e => by cases e), h3⟩
/-- the first packet is taken -/
theorem OwnK.pop {w : World} {b : Nat} {v : Value} {p : Pk} {l : List Pk} (h : OwnK w b v (p :: l)) : ∃ g o cap, v = .slice (some ⟨g, o, none⟩) (l.length + 1) (cap + 1) ∧ l.length ≤ cap ∧ cap < maxLen ∧ w.cell? ⟨g, o, none⟩ = some (.bool p.1) ∧ w.cell? ⟨g, o + 1, none⟩ = some (.int .i64 p.2.1) ∧ w.cell? ⟨g, o + 2, none⟩ = some (.int .i64 p.2.2) ∧
    OwnK w b (.slice (some ⟨g, if cap = 0 then o else o + 3, none⟩) l.length cap) l := by
  rcases h with ⟨_, h⟩ | ⟨g, o, cap, cur, rfl, h1, h2, h3, h4, h5, h6⟩
  · cases h
  · simp only [List.length_cons] at h3
    obtain ⟨cap, rfl⟩ : ∃ c, cap = c + 1 := ⟨cap - 1, by omega⟩
    refine ⟨g, o, cap, rfl, by omega, by omega, h6 0 _ rfl, h6 1 _ rfl, h6 2 _ rfl, .inr ⟨g, _, cap, cur, rfl, h1, h2, by omega, by omega, by split <;> omega, fun j u hu => ?_⟩⟩
    have hl : 0 < l.length := by
      have := (List.getElem?_eq_some_iff.1 hu).1
      rw [flatK_length] at this; omega
    rw [if_neg (by omega)]
    have := h6 (j + 3) u (by simpa [flatK] using hu)
    rwa [show o + 3 + j = o + (j + 3) by omega]
theorem info_pk : (Try.prog.info? 94).map (fun i => (i.zero, i.size, i.bytes)) = some (some (.agg #[.bool false, .int .i64 0, .int .i64 0]), 3, 24) := by kernel_rfl
theorem sizeOfK : (Try.prog.info? 94).map (·.size) = some 3 := by kernel_rfl
theorem size_setCellsK (b : Nat) : ∀ (vs : List Value) (o : Nat) (w : World), (w.setCells b o vs).heap.size = w.heap.size
  | [], _, _ => rfl
  | v :: r, o, w => by rw [World.setCells, size_setCellsK b r]; simp
theorem tape_setCellsK (b : Nat) : ∀ (vs : List Value) (o : Nat) (w : World), (w.setCells b o vs).tape = w.tape
  | [], _, _ => rfl
  | v :: r, o, w => by rw [World.setCells, tape_setCellsK b r]; rfl
theorem blk_setCellsK {g : Nat} {t : TypeId} : ∀ (vs : List Value) (o : Nat) (w : World) (cs : Array Value), Blk w g t cs → ∃ cs', Blk (w.setCells g o vs) g t cs' ∧ cs'.size = cs.size
  | [], _, _, cs, h => ⟨cs, h, rfl⟩
  | v :: r, o, w, cs, h => by
    obtain ⟨cs', h', e⟩ := blk_setCellsK r (o + 1) _ _ (h.set_ o v)
    exact ⟨cs', h', by rw [e]; simp⟩
set_option maxRecDepth 100000 in
/-- 'q = append(q, xs...)': the result lies where q lay, or in a new block -/
theorem wpList_appK {ops : Array Oper} {rest : List Oper} {o : Oper} {a : Act} {Q : Exit → Act → World → Prop} (hgd : o.guard = none) (s x : Operand)
    (ho : o.op = .call { callee := .builtin .append, args := #[s, x], argTypes := #[48, 48] })
    (X : World) (base : Nat) (v : Value) (l : List Pk) (B : Option Addr) (l2 : List Pk) (c : Nat) (hown : OwnK X base v l) (hr : RK X B l2) (hB : B = none → l2 = [] ∧ c = 0) (hs : a.eval s = v) (hx : a.eval x = .slice B l2.length c)
    (hlen : l.length + l2.length ≤ 1000000) (hbase : base ≤ X.heap.size)
    (h : ∀ v' w', OwnK w' base v' (l ++ l2) → Below base X w' → X.grownBy w' v.ownBlock → (v'.ownBlock = v.ownBlock ∨ ∀ k, v'.ownBlock = some k → X.heap.size ≤ k) → wpList Try.prog ops Q rest (a.put o.dst v') w') :
    wpList Try.prog ops Q (o :: rest) a X := by
  obtain ⟨i0, hi, hz0, hz1, hz2⟩ := info_parts info_pk
  have hsrc : Src Try.prog i0.size 48 (.slice B l2.length c) l2.length (flatK l2) X := by
    rw [hz1]
    cases B with
    | none =>
      obtain ⟨rfl, rfl⟩ := hB rfl
      exact Src.ofNil X Try.underlying48 0
    | some ad =>
      exact Src.ofSlice X Try.underlying48 ad l2.length c _ (flatK_length l2) (flat_of_rk hr ad rfl) (flatK_one l2)
  have fin : ∀ v' w', (Builtin.append_ #[48, 48] o.type #[v, .slice B l2.length c]).run Try.prog X = .ok v' w' → OwnK w' base v' (l ++ l2) → X.grownBy w' v.ownBlock → (v'.ownBlock = v.ownBlock ∨ ∀ k, v'.ownBlock = some k → X.heap.size ≤ k) → wpList Try.prog ops Q (o :: rest) a X := fun v' w' hrun h1 h2 h3 => by
    refine wpList_plain hgd fun K hK' => ?_
    unfold Oper.wp
    simp [execOp, ho, resolve, invoke, builtin, hs, hx, hrun, Result.andThen]
    exact hK' _ _ (h v' w' h1 ((Below.refl base X).grown h2 hbase (fun k hk => (hown.lt k hk).1)) h2 h3)
  have hmax : maxLen = 9223372036854775807 := rfl
  have grow : ∀ (ao : Option Addr) (cap : Nat), v = .slice ao l.length cap → cap < l.length + l2.length → (Builtin.firstCells i0.size l.length (.slice ao l.length cap)).run Try.prog X.drew = .ok (flatK l).toArray X.drew → wpList Try.prog ops Q (o :: rest) a X := fun ao cap hv hlt hold => by
    have hrun := run_append_grow_src (P := Try.prog) X 48 48 o.type 94 i0 _ Try.underlying48 hi hz0 ao l.length cap _ hold _ l2.length _ hsrc hlt (by omega) (growslice_fits hlt (by rw [hz2]; omega))
    rw [← hv] at hrun
    have hge := grownCap_ge X (l.length + l2.length) cap 94
    have hcm : grownCap X (l.length + l2.length) cap 94 ≤ maxLen := grownCap_le_maxLen X _ cap 94 (by omega)
    generalize grownCap X (l.length + l2.length) cap 94 = gc at *
    refine fin _ _ hrun (.inr ⟨X.heap.size, 0, gc, _, by rw [List.length_append], hbase, heap_alloc_new X.drew _, by rw [List.length_append]; exact hge, hcm, ?_, fun j u hu => ?_⟩) ⟨rfl, rfl, rfl, by simp, fun k hk _ => Below.heap_alloc X.drew _ k hk⟩ (.inr fun k hk => by injection hk with hk; exact Nat.le_of_eq hk)
    · simp only [Array.size_append, List.size_toArray, List.length_append, size_zeroCells, flatK_length]; simp [Value.cells]; omega
    · rw [cell_of_row _ X.heap.size _ _ _ _ (heap_alloc_new X.drew _), Nat.zero_add]
      have hjl := (List.getElem?_eq_some_iff.1 hu).1
      rw [flatK_length, List.length_append] at hjl
      rw [Array.getElem?_append_left (by simp only [List.size_toArray, List.length_append, flatK_length]; omega), List.getElem?_toArray, ← flatK_append]
      exact hu
  rcases hown with ⟨rfl, rfl⟩ | ⟨g, off, cap, cur, rfl, h1, h2, h3, h4, h5, h6⟩
  · by_cases hz : l2.length = 0
    · have := List.eq_nil_of_length_eq_zero hz
      subst this
      refine fin (.slice none 0 0) X ?_ (.inl ⟨rfl, rfl⟩) (grownBy_refl _ _) (.inl rfl)
      cases B <;> simp [Builtin.append_, run_underlying Try.underlying48, sizeOf, typeInfo, hi, Builtin.lenOf, Builtin.firstCells, loadCells, loadCellsFrom]
    · exact grow none 0 rfl (by simp; omega) (run_firstCells_none X.drew i0.size 0 0 0)
  · have hthere : ∀ k, k < cap * 3 → (X.cell? ⟨g, off + k, none⟩).isSome = true := fun k hk => by rw [h2.cell, Array.getElem?_eq_getElem (by omega)]; rfl
    by_cases hroom : l.length + l2.length ≤ cap
    · have hrun := run_append_room_src (P := Try.prog) X 48 48 o.type 94 i0 Try.underlying48 hi g off l.length cap _ l2.length _ hsrc hroom (fun j hj => by rw [hz1, Nat.add_assoc]; rw [flatK_length] at hj; exact hthere _ (by omega)) (fun j hj => h2.frozen _)
      rw [hz1] at hrun
      have hsome : ∀ j, j < (flatK l2).length → (X.cell? ⟨g, off + l.length * 3 + j, none⟩).isSome = true := fun j hj => by rw [flatK_length] at hj; rw [Nat.add_assoc]; exact hthere _ (by omega)
      have hsz := size_setCellsK g (flatK l2) (off + l.length * 3) X
      obtain ⟨cur', hB', hs'⟩ := blk_setCellsK (flatK l2) (off + l.length * 3) X cur h2
      refine fin _ _ hrun (.inr ⟨g, off, cap, cur', by rw [List.length_append], h1, hB', by rw [List.length_append]; exact hroom, h4, by omega, fun j u hu => ?_⟩) ⟨World.os_setCells _ _ _ _, tape_setCellsK _ _ _ _, World.output_setCells _ _ _ _, by rw [hsz]; exact Nat.le_refl _, fun k hk hne => World.heap_setCells_other X g _ _ hk (fun e => hne (by subst e; rfl))⟩ (.inl rfl)
      have hjl := (List.getElem?_eq_some_iff.1 hu).1
      rw [flatK_length, List.length_append] at hjl
      by_cases hj : j < l.length * 3
      · rw [World.cell?_setCells_out g _ _ _ _ (fun _ _ => Or.inl (by show off + j < off + l.length * 3; omega))]
        refine h6 j u ?_
        rwa [flatK_append, List.getElem?_append_left (by rw [flatK_length]; exact hj)] at hu
      · have hin := World.cell?_setCells_in g (flatK l2) (off + l.length * 3) X hsome (j - l.length * 3) (by rw [flatK_length]; omega)
        rw [show off + l.length * 3 + (j - l.length * 3) = off + j by omega] at hin
        rw [hin]
        rw [flatK_append, List.getElem?_append_right (by rw [flatK_length]; omega), flatK_length, List.getElem?_eq_getElem (by rw [flatK_length]; omega)] at hu
        exact hu
    · refine grow (some ⟨g, off, none⟩) cap rfl (by omega) (run_firstCells_some X.drew i0.size l.length ⟨g, off, none⟩ l.length cap _ (by rw [hz1, flatK_length]) (fun j u hu => ?_))
      rw [show (⟨g, off, none⟩ : Addr).add j = ⟨g, off + j, none⟩ by unfold Addr.add; split <;> simp_all]
      exact h6 j u hu
def RetKn (l : List Pk) (w : World) : Ending → World → Prop := fun e w' => ∃ A c, e = .returned (.slice A l.length c) ∧ OwnK w' w.heap.size (.slice A l.length c) l ∧ Below w.heap.size w w'
theorem own_emptyK (w : World) : OwnK (w.alloc (.cells #[] 94)) w.heap.size (.slice (some ⟨w.heap.size, 0, none⟩) 0 0) [] :=
  .inr ⟨w.heap.size, 0, 0, #[], rfl, Nat.le_refl _, Blk.new _ _ _, Nat.le_refl _, by decide, by simp, fun j u hu => by simp [flatK] at hu⟩
set_option maxRecDepth 100000 in
set_option maxHeartbeats 1000000 in
theorem cloneK_any (A : Option Addr) (l : List Pk) (c : Nat) (w : World) (hr : RK w A l) (hn : A = none → l = [] ∧ c = 0) (hl : l.length ≤ 100000) :
    Calls Try.prog 53 #[.slice A l.length c] w (RetKn l w) := by
  cases A with
  | none =>
    obtain ⟨rfl, rfl⟩ := hn rfl
    have heq : ∀ W : World, (binOp .eql 48 (.slice none 0 0) (.slice none 0 0)).run Try.prog W = .ok (.bool true) W := fun W => Lib.run_eql_slice_nil W _ _ none _ _ 0 0 Try.underlying48
    go_enter Try.func53, Try.ntmps53
    go_wp2_with fail
    go_ret
    exact ⟨none, 0, rfl, OwnK.nil _ _, Below.refl _ _⟩
  | some ad =>
    have Hr := Lib.hid (hr.below (newB w (.cells #[] 94)))
    clear hr hn
    have heq : ∀ W : World, (binOp .eql 48 (.slice (some ad) l.length c) (.slice none 0 0)).run Try.prog W = .ok (.bool false) W := fun W => Lib.run_eql_slice_nil W _ _ (some ad) _ _ 0 0 Try.underlying48
    go_enter Try.func53, Try.ntmps53
    go_wp2_with (at_builtin; refine wpList_appK (by rfl) _ _ (by rfl) (w.alloc (.cells #[] 94)) w.heap.size _ [] (some ad) l c (own_emptyK w) Hr.out (by simp) (by rfl) (by rfl) (by simp; omega) (by simp) ?_; intro v' w1 hown hb1 hg1 hl1; rw [List.nil_append] at hown; (obtain ⟨A', c', rfl, _, _, _⟩ := OwnK.form hown); have Hown := Lib.hid hown; clear hown hg1 hl1)
    go_ret
    exact ⟨A', c', rfl, Hown.out, (newB w _).trans hb1⟩
end Go.Proofs.Ythkknlnfdckdfaa
