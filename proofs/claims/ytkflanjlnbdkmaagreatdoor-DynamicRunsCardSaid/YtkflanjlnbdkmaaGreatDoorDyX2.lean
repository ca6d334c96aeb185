import Derived.Test.YtkflanjlnbdkmaaGreatDoorGenM
import Derived.Deep.Upon
import Derived.Test.YtkflanjlnbdkmaaGreatDoorDyX1
import Derived.Test.YtkflanjlnbdkmaaGreatDoorTxtZ
import Derived.Shelf.Spec.SlicesInsertGrow
import Derived.Test.YtkflanjlnbdkmaaGreatDoorG10
/- A list of numbers that the call owns and takes from in front: 'q = q[1:]', 'q = append(q, xs...)'. -/
namespace Go.Proofs.YtkflanjlnbdkmaaGreatDoor
open Go.ChangeShapes Go.WideShapes Go.ChangeAt Go.RowKit

/-- v holds the numbers l in a block from base on, at any place of it -/
def OwnQ (w : World) (base : Nat) (v : Value) (l : List Int) : Prop := (v = .slice none 0 0 ∧ l = []) ∨
  ∃ g o cap, v = .slice (some ⟨g, o, none⟩) l.length cap ∧ base ≤ g ∧ g < w.heap.size ∧ l.length ≤ cap ∧ cap ≤ maxLen ∧ (∀ j u, (l.map (Value.int .i64))[j]? = some u → w.cell? ⟨g, o + j, none⟩ = some u) ∧
    ∀ j, j < cap → (w.cell? ⟨g, o + j, none⟩).isSome = true ∧ w.frozen? ⟨g, o + j, none⟩ = false
theorem OwnI.toQ {w : World} {b : Nat} {v : Value} {l : List Int} (h : OwnI w b v l) : OwnQ w b v l := by
  have h' := h
  obtain ⟨h1, h2⟩ := h
  rcases h2 with ⟨rfl, hn⟩ | ⟨g, cap, cur, rfl, hg, hc, hle, hm, hs, ht⟩
  · exact .inl ⟨rfl, List.eq_nil_of_length_eq_zero hn⟩
  · refine .inr ⟨g, 0, cap, rfl, hg, (World.ownsRow.lt h' g rfl).2, hle, hm, fun j u hu => ?_, fun j hj => ?_⟩
    · have := h'.cells (g := g) rfl j u hu
      rwa [show (⟨g, 0, none⟩ : Addr).add j = ⟨g, 0 + j, none⟩ by unfold Addr.add; split <;> simp_all] at this
    · rw [Nat.zero_add, cell_of_row w g j _ _ _ hc]
      refine ⟨by rw [Array.getElem?_eq_getElem (by omega)]; rfl, ?_⟩
      simp [World.frozen?, hc]
theorem OwnQ.lt {w : World} {b : Nat} {v : Value} {l : List Int} (h : OwnQ w b v l) : ∀ k, v.ownBlock = some k → b ≤ k ∧ k < w.heap.size := by
  intro k hk
  rcases h with ⟨rfl, _⟩ | ⟨g, o, cap, rfl, h1, h2, _⟩
  · cases hk
  · injection hk with hk; subst hk; exact ⟨h1, h2⟩
theorem OwnQ.kept {w w' : World} {b : Nat} {v : Value} {l : List Int} {row : Option Nat} (h : OwnQ w b v l) (hg : w.grownBy w' row) (hne : ∀ k, v.ownBlock = some k → some k ≠ row) : OwnQ w' b v l := by
  rcases h with h | ⟨g, o, cap, rfl, h1, h2, h3, h4, h5, h6⟩
  · exact .inl h
  · have e := hg.block g h2 (hne g rfl)
    exact .inr ⟨g, o, cap, rfl, h1, Nat.lt_of_lt_of_le h2 hg.size, h3, h4, fun j u hu => (World.cell?_of_block (a := ⟨g, o + j, none⟩) e).trans (h5 j u hu),
      fun j hj => ⟨by rw [World.cell?_of_block (a := ⟨g, o + j, none⟩) e]; exact (h6 j hj).1, (World.frozen?_of_block (a := ⟨g, o + j, none⟩) e).trans (h6 j hj).2⟩⟩
theorem OwnQ.below {w w' : World} {b : Nat} {v : Value} {l : List Int} (h : OwnQ w b v l) (hb : Below w.heap.size w w') : OwnQ w' b v l := h.kept (grownBy_of_below hb none) fun _ _ e => by cases e
theorem OwnQ.far {w : World} {b : Nat} {v : Value} {l : List Int} (h : OwnQ w b v l) {g : Nat} (hne : v.ownBlock ≠ some g) (i : Nat) (u : Value) : OwnQ (w.setCell ⟨g, i, none⟩ u) b v l :=
  h.kept (grownBy_setCell w g i u) fun _ hk e => hne (hk.trans e)
theorem OwnQ.ri {w : World} {b : Nat} {A : Option Addr} {c : Nat} {l : List Int} (h : OwnQ w b (.slice A l.length c) l) : RI w A l := by
  rcases h with ⟨_, rfl⟩ | ⟨g, o, cap, e, h1, h2, h3, h4, h5, h6⟩
  · exact RI.nil _ _
  · injection e with e _ _
    subst e
    exact fun k hk => ⟨g, o, rfl, h5 k _ (by rw [List.getElem?_map, List.getElem?_eq_getElem hk]; simp [List.getD, hk])⟩
/-- the first number is taken -/
theorem OwnQ.pop {w : World} {b : Nat} {v : Value} {x : Int} {l : List Int} (h : OwnQ w b v (x :: l)) : ∃ g o cap, v = .slice (some ⟨g, o, none⟩) (l.length + 1) (cap + 1) ∧ b ≤ g ∧ l.length ≤ cap ∧ cap < maxLen ∧ w.cell? ⟨g, o, none⟩ = some (.int .i64 x) ∧ OwnQ w b (.slice (some ⟨g, o + 1, none⟩) l.length cap) l := by
  rcases h with ⟨_, h⟩ | ⟨g, o, cap, rfl, h1, h2, h3, h4, h5, h6⟩
  · cases h
  · simp only [List.length_cons] at h3
    obtain ⟨cap, rfl⟩ : ∃ c, cap = c + 1 := ⟨cap - 1, by omega⟩
    refine ⟨g, o, cap, rfl, h1, by omega, by omega, h5 0 _ rfl, .inr ⟨g, o + 1, cap, rfl, h1, h2, by omega, by omega, fun j u hu => ?_, fun j hj => ?_⟩⟩
    · have := h5 (j + 1) u (by simpa using hu)
      rwa [show o + 1 + j = o + (j + 1) by omega]
    · have := h6 (j + 1) (by omega)
      rwa [show o + 1 + j = o + (j + 1) by omega]
theorem size_setCellsQ (b : Nat) : ∀ (vs : List Value) (o : Nat) (w : World), (w.setCells b o vs).heap.size = w.heap.size
  | [], _, _ => rfl
  | v :: r, o, w => by rw [World.setCells, size_setCellsQ b r]; simp
theorem tape_setCellsQ (b : Nat) : ∀ (vs : List Value) (o : Nat) (w : World), (w.setCells b o vs).tape = w.tape
  | [], _, _ => rfl
  | v :: r, o, w => by rw [World.setCells, tape_setCellsQ b r]; rfl
set_option maxRecDepth 100000 in
/-- 'q = append(q, xs...)' -/
theorem wpList_appQ {ops : Array Oper} {rest : List Oper} {o : Oper} {a : Act} {Q : Exit → Act → World → Prop} (hgd : o.guard = none) (s x : Operand)
    (ho : o.op = .call { callee := .builtin .append, args := #[s, x], argTypes := #[25, 25] })
    (X : World) (base : Nat) (v : Value) (l : List Int) (B : Option Addr) (l2 : List Int) (c : Nat) (hown : OwnQ X base v l) (hr : RI X B l2) (hB : B = none → l2 = [] ∧ c = 0) (hs : a.eval s = v) (hx : a.eval x = .slice B l2.length c)
    (hlen : l.length + l2.length ≤ 1000000) (hbase : base ≤ X.heap.size)
    (h : ∀ v' w', OwnQ w' base v' (l ++ l2) → Below base X w' → X.grownBy w' v.ownBlock → (v'.ownBlock = v.ownBlock ∨ ∀ k, v'.ownBlock = some k → X.heap.size ≤ k) → wpList Tryz.prog ops Q rest (a.put o.dst v') w') :
    wpList Tryz.prog ops Q (o :: rest) a X := by
  obtain ⟨i0, hi, hz0, hz1, hz2⟩ := info_parts info_int
  have hsrc : Src Tryz.prog i0.size 25 (.slice B l2.length c) l2.length (l2.map (Value.int .i64)) X := by
    rw [hz1]
    cases B with
    | none =>
      obtain ⟨rfl, rfl⟩ := hB rfl
      exact Src.ofNil X Tryz.underlying25 0
    | some ad =>
      refine Src.ofSlice X Tryz.underlying25 ad l2.length c _ (by simp) (fun j u hu => ?_) (by intro u hu; rw [List.mem_map] at hu; obtain ⟨y, _, rfl⟩ := hu; rfl)
      rw [List.getElem?_map] at hu
      cases hj : l2[j]? with
      | none => rw [hj] at hu; cases hu
      | some y =>
        rw [hj] at hu
        simp only [Option.map_some, Option.some.injEq] at hu
        subst hu
        have hjl := (List.getElem?_eq_some_iff.1 hj).1
        obtain ⟨b, off, hA, hc⟩ := hr j hjl
        injection hA with hA; subst hA
        rw [show (⟨b, off, none⟩ : Addr).add j = ⟨b, off + j, none⟩ by unfold Addr.add; split <;> simp_all, hc]
        simp [List.getD, hj]
  have fin : ∀ v' w', (Builtin.append_ #[25, 25] o.type #[v, .slice B l2.length c]).run Tryz.prog X = .ok v' w' → OwnQ w' base v' (l ++ l2) → X.grownBy w' v.ownBlock → (v'.ownBlock = v.ownBlock ∨ ∀ k, v'.ownBlock = some k → X.heap.size ≤ k) → wpList Tryz.prog ops Q (o :: rest) a X := fun v' w' hrun h1 h2 h3 => by
    refine wpList_plain hgd fun K hK' => ?_
    unfold Oper.wp
    simp [execOp, ho, resolve, invoke, builtin, hs, hx, hrun, Result.andThen]
    exact hK' _ _ (h v' w' h1 ((Below.refl base X).grown h2 hbase (fun k hk => (hown.lt k hk).1)) h2 h3)
  have hmax : maxLen = 9223372036854775807 := rfl
  have grow : ∀ (ao : Option Addr) (cap : Nat), v = .slice ao l.length cap → cap < l.length + l2.length → (Builtin.firstCells i0.size l.length (.slice ao l.length cap)).run Tryz.prog X.drew = .ok (l.map (Value.int .i64)).toArray X.drew → wpList Tryz.prog ops Q (o :: rest) a X := fun ao cap hv hlt hold => by
    have hrun := run_append_grow_src (P := Tryz.prog) X 25 25 o.type 3 i0 (.int .i64 0) Tryz.underlying25 hi hz0 ao l.length cap _ hold _ l2.length _ hsrc hlt (by omega) (growslice_fits hlt (by rw [hz2]; omega))
    rw [← hv] at hrun
    have hge := grownCap_ge X (l.length + l2.length) cap 3
    have hcm : grownCap X (l.length + l2.length) cap 3 ≤ maxLen := grownCap_le_maxLen X _ cap 3 (by omega)
    generalize grownCap X (l.length + l2.length) cap 3 = gc at *
    refine fin _ _ hrun (.inr ⟨X.heap.size, 0, gc, by rw [List.length_append], hbase, by simp, by rw [List.length_append]; exact hge, hcm, fun j u hu => ?_, fun j hj => ?_⟩) ⟨rfl, rfl, rfl, by simp, fun k hk _ => Below.heap_alloc X.drew _ k hk⟩ (.inr fun k hk => by injection hk with hk; exact Nat.le_of_eq hk)
    · rw [cell_of_row _ X.heap.size _ _ _ _ (heap_alloc_new X.drew _), Nat.zero_add]
      have hjl := (List.getElem?_eq_some_iff.1 hu).1
      rw [List.length_map, List.length_append] at hjl
      rw [Array.getElem?_append_left (by simp; omega), List.getElem?_toArray, ← List.map_append]
      exact hu
    · rw [cell_of_row _ X.heap.size _ _ _ _ (heap_alloc_new X.drew _), Nat.zero_add]
      refine ⟨?_, ?_⟩
      · rw [Array.getElem?_eq_getElem (by simp only [Array.size_append, List.size_toArray, size_zeroCells]; simp [Value.cells]; omega)]; rfl
      · exact Blk.frozen (w := _) (heap_alloc_new X.drew _) j
  rcases hown with ⟨rfl, rfl⟩ | ⟨g, off, cap, rfl, h1, h2, h3, h4, h5, h6⟩
  · by_cases hz : l2.length = 0
    · have := List.eq_nil_of_length_eq_zero hz
      subst this
      refine fin (.slice none 0 0) X ?_ (.inl ⟨rfl, rfl⟩) (grownBy_refl _ _) (.inl rfl)
      cases B <;> simp [Builtin.append_, run_underlying Tryz.underlying25, sizeOf, typeInfo, hi, Builtin.lenOf, Builtin.firstCells, loadCells, loadCellsFrom]
    · exact grow none 0 rfl (by simp; omega) (run_firstCells_none X.drew i0.size 0 0 0)
  · by_cases hroom : l.length + l2.length ≤ cap
    · have hrun := run_append_room_src (P := Tryz.prog) X 25 25 o.type 3 i0 Tryz.underlying25 hi g off l.length cap _ l2.length _ hsrc hroom (fun j hj => by rw [hz1]; have := (h6 (l.length + j) (by rw [List.length_map] at hj; omega)).1; rwa [show off + l.length * 1 + j = off + (l.length + j) by omega]) (fun j hj => by rw [hz1]; have := (h6 (l.length + j) (by rw [List.length_map] at hj; omega)).2; rwa [show off + l.length * 1 + j = off + (l.length + j) by omega])
      rw [hz1, Nat.mul_one] at hrun
      have hsome : ∀ j, j < (l2.map (Value.int .i64)).length → (X.cell? ⟨g, off + l.length + j, none⟩).isSome = true := fun j hj => by rw [List.length_map] at hj; rw [Nat.add_assoc]; exact (h6 _ (by omega)).1
      have hsz := size_setCellsQ g (l2.map (Value.int .i64)) (off + l.length) X
      refine fin _ _ hrun (.inr ⟨g, off, cap, by rw [List.length_append], h1, by rw [hsz]; exact h2, by rw [List.length_append]; exact hroom, h4, fun j u hu => ?_, fun j hj => ⟨?_, (World.frozen?_setCells g _ _ _ _).trans (h6 j hj).2⟩⟩) ⟨World.os_setCells _ _ _ _, tape_setCellsQ _ _ _ _, World.output_setCells _ _ _ _, by rw [hsz]; exact Nat.le_refl _, fun k hk hne => World.heap_setCells_other X g _ _ hk (fun e => hne (by subst e; rfl))⟩ (.inl rfl)
      · have hjl := (List.getElem?_eq_some_iff.1 hu).1
        rw [List.length_map, List.length_append] at hjl
        by_cases hj : j < l.length
        · rw [World.cell?_setCells_out g _ _ _ _ (fun _ _ => Or.inl (by show off + j < off + l.length; omega))]
          refine h5 j u ?_
          rwa [List.map_append, List.getElem?_append_left (by rw [List.length_map]; exact hj)] at hu
        · have hin := World.cell?_setCells_in g (l2.map (Value.int .i64)) (off + l.length) X hsome (j - l.length) (by rw [List.length_map]; omega)
          rw [show off + l.length + (j - l.length) = off + j by omega] at hin
          rw [hin]
          rw [List.map_append, List.getElem?_append_right (by rw [List.length_map]; omega), List.length_map, List.getElem?_eq_getElem (by rw [List.length_map]; omega)] at hu
          exact hu
      · by_cases hin : l.length ≤ j ∧ j < l.length + l2.length
        · have := World.cell?_setCells_in g (l2.map (Value.int .i64)) (off + l.length) X hsome (j - l.length) (by rw [List.length_map]; omega)
          rw [show off + l.length + (j - l.length) = off + j by omega] at this
          rw [this]; rfl
        · rw [World.cell?_setCells_out g _ _ _ _ (fun _ _ => by rw [List.length_map]; show off + j < off + l.length ∨ off + l.length + l2.length ≤ off + j; omega)]
          exact (h6 j hj).1
    · refine grow (some ⟨g, off, none⟩) cap rfl (by omega) (run_firstCells_some X.drew i0.size l.length ⟨g, off, none⟩ l.length cap _ (by rw [hz1]; simp) (fun j u hu => ?_))
      rw [show (⟨g, off, none⟩ : Addr).add j = ⟨g, off + j, none⟩ by unfold Addr.add; split <;> simp_all]
      exact h5 j u hu
end Go.Proofs.YtkflanjlnbdkmaaGreatDoor

/- slices.Insert at pairs: one pair into a list that the call owns. -/
namespace Go.Proofs.YtkflanjlnbdkmaaGreatDoor
open Go.ChangeShapes Go.WideShapes Go.ChangeAt Go.RowKit

theorem run_copy_cells2 {P : Program} (w : World) (dT sT ty elem : TypeId) (b o dLen dCap : Nat) (a : Addr) (sLen sCap : Nat) (cs : List Value) (k : Nat)
    (hu : P.underlying dT = some (.slice elem)) (hs : (P.info? elem).map (·.size) = some k) (hn : cs.length = Nat.min sLen dLen * k)
    (hsrc : ∀ j v, cs[j]? = some v → w.cell? (a.add j) = some v) (hc : ∀ j, j < cs.length → (w.cell? ⟨b, o + j, none⟩).isSome = true) (hf : ∀ j, j < cs.length → w.frozen? ⟨b, o + j, none⟩ = false) (h1 : ∀ v ∈ cs, v.oneCell' = true) :
    (Builtin.copy_ #[dT, sT] ty #[.slice (some ⟨b, o, none⟩) dLen dCap, .slice (some a) sLen sCap]).run P w = .ok (goInt (Nat.min sLen dLen)) (w.setCells b o cs) := by
  have hl := run_loadCells_list (P := P) w a cs hsrc
  have hst := run_storeCells_cells (P := P) b o cs 0 w (by simpa using hc) (by simpa using hf) h1
  cases hq : P.info? elem with
  | none => simp [hq] at hs
  | some i =>
    have hi : i.size = k := by simpa [hq] using hs
    simp [Builtin.copy_, run_underlying hu, Builtin.lenOf, Builtin.firstCells, sizeOf, typeInfo, hq, hi, ← hn, hl, hst]
theorem Eff.copy {P : Program} {o : Oper} {a : Act} {w : World} {Post : Value → World → Prop} (d s : Operand) (t t' : TypeId) (ho : o.op = .call { callee := .builtin .copy, args := #[d, s], argTypes := #[t, t'] }) (v u : Value) (hd : a.eval d = v) (hs : a.eval s = u) {v' : Value} {w' : World}
    (hr : (Builtin.copy_ #[t, t'] o.type #[v, u]).run P w = .ok v' w') (h : Post v' w') : Eff P o a w Post := by
  unfold Eff
  exact wp_copy_runI w d s t t' ho v u hd hs hr ⟨v', rfl, h⟩
theorem blk_setCells {g : Nat} {t : TypeId} : ∀ (vs : List Value) (o : Nat) (w : World) (cs : Array Value), Blk w g t cs → ∃ cs', Blk (w.setCells g o vs) g t cs' ∧ cs'.size = cs.size
  | [], _, _, cs, h => ⟨cs, h, rfl⟩
  | v :: r, o, w, cs, h => by
    obtain ⟨cs', h', e⟩ := blk_setCells r (o + 1) _ _ (h.set_ o v)
    exact ⟨cs', h', by rw [e]; simp⟩
theorem own_of_cells {w : World} {base g cap n : Nat} {cur : Array Value} {L : List (Int × Int)} (hb : base ≤ g) (h : Blk w g 54 cur) (hn : L.length = n) (hle : n ≤ cap) (hm : cap ≤ maxLen) (hs : cur.size = cap * 2)
    (hc : ∀ j, j < n * 2 → w.cell? ⟨g, j, none⟩ = (flatP L)[j]?) : OwnP w base (.slice (some ⟨g, 0, none⟩) n cap) L := by
  subst hn
  refine ⟨flatP_length L, .inr ⟨g, cap, cur, rfl, hb, h, hle, hm, hs, ?_⟩⟩
  apply List.ext_getElem?
  intro j
  by_cases hj : j < L.length * 2
  · rw [List.getElem?_take_of_lt hj, ← hc j hj, h.cell, Array.getElem?_toList]
  · rw [List.getElem?_eq_none (by rw [List.length_take]; omega), List.getElem?_eq_none (by rw [flatP_length]; omega)]
theorem flatP_append (l m : List (Int × Int)) : flatP (l ++ m) = flatP l ++ flatP m := by simp [flatP]
theorem flatP_drop (l : List (Int × Int)) (i : Nat) (hi : i ≤ l.length) : (flatP l).drop (i * 2) = flatP (l.drop i) := by
  conv => lhs; rw [← List.take_append_drop i l, flatP_append]
  rw [List.drop_append_of_le_length (by rw [flatP_length, List.length_take]; omega), List.drop_of_length_le (by rw [flatP_length, List.length_take]; omega), List.nil_append]
theorem flatP_take (l : List (Int × Int)) (i : Nat) (hi : i ≤ l.length) : (flatP l).take (i * 2) = flatP (l.take i) := by
  conv => lhs; rw [← List.take_append_drop i l, flatP_append]
  rw [List.take_append_of_le_length (by rw [flatP_length, List.length_take]; omega), List.take_of_length_le (by rw [flatP_length, List.length_take]; omega)]
theorem flatP_one (l : List (Int × Int)) : ∀ v ∈ flatP l, v.oneCell' = true := by
  intro u hu
  unfold flatP at hu
  rw [List.mem_flatMap] at hu
  obtain ⟨y, _, hy⟩ := hu
  simp at hy
  rcases hy with rfl | rfl <;> rfl

set_option maxRecDepth 100000 in
set_option maxHeartbeats 4000000 in
/-- there is room, and the pair comes ahead of others -/
theorem insP_shift (g c n i gv : Nat) (l : List (Int × Int)) (f t : Int) (w : World) (cur : Array Value) (hi : i < n) (hl : l.length = n) (hroom : n + 1 ≤ c) (hc63 : c ≤ 9223372036854775807) (hgv : gv ≠ g)
    (hc : ∀ j v, (flatP l)[j]? = some v → w.cell? ⟨g, j, none⟩ = some v) (hB : Blk w g 54 cur) (hsz : cur.size = c * 2) (hV : Blk w gv 54 #[.int .i64 f, .int .i64 t]) :
    Calls Tryz.prog 61 #[.slice (some ⟨g, 0, none⟩) n c, .int .i64 (i : Int), .slice (some ⟨gv, 0, none⟩) 1 1] w fun e w' =>
      e = .returned (.slice (some ⟨g, 0, none⟩) (n + 1) c) ∧ w' = (w.drew.setCells g ((i + 1) * 2) (flatP (l.drop i))).setCells g (i * 2) [.int .i64 f, .int .i64 t] := by
  have hz2 : ((i : Int) == (n : Int)) = false := by rw [beq_eq_false_iff_ne]; omega
  have hsize : (Tryz.prog.info? 54).map (·.size) = some 2 := by kernel_rfl
  have hov : ∀ (W : World), Blk W g 54 cur → Blk W gv 54 #[.int .i64 f, .int .i64 t] → ∀ lb cb, (callFunc 78 #[.slice (some ⟨gv, 0, none⟩) 1 1, .slice (some ⟨g, (i + 1) * 2, none⟩) lb cb]).run Tryz.prog W = .ok (.value (.bool false)) W := fun W h1 h2 lb cb => by
    rw [run_callFunc_extern Tryz.func78 (by kernel_rfl) (by kernel_rfl) (by kernel_rfl) (e := Extern.SlicesOverlaps.overlaps #[22, 22] #[4]) (by kernel_rfl),
      Lib.run_overlaps_apart W 22 4 54 Tryz.underlying22 2 sizeOfP ⟨gv, 0, none⟩ ⟨g, (i + 1) * 2, none⟩ 1 1 lb cb hgv 54 54 2 cur.size (by unfold Blk at h2; simp [World.shape?, h2]) (by unfold Blk at h1; simp [World.shape?, h1]) (by omega) (h2.frozen 0) (h2.frozen 2)]
    rfl
  have hov1 := hov w hB hV
  have hn0 : ¬ (c : Int) < (n : Int) + 1 := by omega
  have hin0 : (i : Int) ≤ (n : Int) + 1 := by omega
  have hw1 : IntKind.i64.wrap ((i : Int) + 1) = (i : Int) + 1 := by rw [IntKind.wrap_i64]; omega
  have hi0 : (0 : Int) ≤ (i : Int) := by omega
  have hin : (i : Int) ≤ (n : Int) := by omega
  have hi1 : (0 : Int) ≤ (i : Int) + 1 := by omega
  have hin1 : (i : Int) + 1 ≤ (n : Int) + 1 := by omega
  have htn : ((i : Int) + 1).toNat = i + 1 := by omega
  have htn2 : ((n : Int) + 1).toNat = n + 1 := by omega
  have hc1 : ¬ c = i := by omega
  have hc2 : ¬ c = i + 1 := by omega
  have hdl : (flatP (l.drop i)).length = (n - i) * 2 := by rw [flatP_length, List.length_drop, hl]
  have hthere : ∀ (W : World) (cs : Array Value), Blk W g 54 cs → cs.size = cur.size → ∀ k, k < c * 2 → (W.cell? ⟨g, k, none⟩).isSome = true := fun W cs h hs k hk => by
    rw [h.cell, Array.getElem?_eq_getElem (by omega)]; rfl
  have hcp1 : ∀ ty dc sc, (Builtin.copy_ #[22, 22] ty #[.slice (some ⟨g, (i + 1) * 2, none⟩) (n - i) dc, .slice (some ⟨g, i * 2, none⟩) (n + 1 - i) sc]).run Tryz.prog w.drew = .ok (goInt (Nat.min (n + 1 - i) (n - i))) (w.drew.setCells g ((i + 1) * 2) (flatP (l.drop i))) := fun ty dc sc =>
    run_copy_cells2 w.drew _ _ ty 54 g ((i + 1) * 2) _ dc ⟨g, i * 2, none⟩ _ sc (flatP (l.drop i)) 2 Tryz.underlying22 hsize (by rw [hdl]; simp only [Nat.min_def]; split <;> omega)
      (fun j v hj => by
        rw [show (⟨g, i * 2, none⟩ : Addr).add j = ⟨g, i * 2 + j, none⟩ by unfold Addr.add; split <;> simp_all]
        rw [← flatP_drop l i (by omega), List.getElem?_drop] at hj
        exact hc _ v hj)
      (fun j hj => hthere w.drew cur hB rfl _ (by omega)) (fun j _ => hB.frozen _) (flatP_one _)
  obtain ⟨cur1, hB1, hsz1⟩ := blk_setCells (flatP (l.drop i)) ((i + 1) * 2) w.drew cur hB
  have hV1 : Blk (w.drew.setCells g ((i + 1) * 2) (flatP (l.drop i))) gv 54 #[.int .i64 f, .int .i64 t] := (World.heap_setCells_other w.drew g _ _ hV.lt hgv).trans hV
  obtain ⟨W1, hW1⟩ : ∃ W1, w.drew.setCells g ((i + 1) * 2) (flatP (l.drop i)) = W1 := ⟨_, rfl⟩
  rw [hW1] at hcp1 hB1 hV1
  have hcp2 : ∀ ty dc, (Builtin.copy_ #[22, 22] ty #[.slice (some ⟨g, i * 2, none⟩) (n + 1 - i) dc, .slice (some ⟨gv, 0, none⟩) 1 1]).run Tryz.prog W1 = .ok (goInt (Nat.min 1 (n + 1 - i))) (W1.setCells g (i * 2) [.int .i64 f, .int .i64 t]) := fun ty dc =>
    run_copy_cells2 W1 _ _ ty 54 g (i * 2) _ dc ⟨gv, 0, none⟩ _ 1 [.int .i64 f, .int .i64 t] 2 Tryz.underlying22 hsize (by simp only [Nat.min_def]; split <;> simp <;> omega)
      (fun j v hj => by
        rw [show (⟨gv, 0, none⟩ : Addr).add j = ⟨gv, j, none⟩ by unfold Addr.add; split <;> simp_all, hV1.cell, ← hj]
        simp)
      (fun j hj => hthere W1 cur1 hB1 hsz1 _ (by simp at hj; omega)) (fun j _ => hB1.frozen _) (by simp [Value.oneCell'])
  have Hcp1 := Lib.hid hcp1; have Hcp2 := Lib.hid hcp2; have HW1 := Lib.hid hW1
  clear hov hcp1 hcp2 hW1 hthere hdl
  go_enter Tryz.func61, Tryz.ntmps61
  go_wp2_with (simp only [hov1])
  refine wp_region_textZ [8] (fun w' => w' = w.drew) (fun _ => True) (by kernel_rfl) (by kernel_rfl) (by kernel_rfl) (by kernel_rfl) rfl trivial ?_
  repeat (first
    | (refine TxtZL.skip (by rfl) ?_; simp only [Act.put, List.setIfInBounds_toArray, List.set_cons_zero, List.set_cons_succ])
    | (refine TxtZL.take (by rfl) (by rfl) ?_; apply Exists.intro; refine ⟨fun w1 hS1 => ?_, ?_⟩; (focus (subst hS1; go_simp; with_reducible rfl)); simp only [Act.put, List.setIfInBounds_toArray, List.set_cons_zero, List.set_cons_succ])
    | (refine TxtZL.takeE' (by rfl) (by rfl) ?_; apply Exists.intro; refine ⟨fun w1 hS1 => ?_, ?_⟩; (focus (subst hS1; go_simp; with_reducible rfl)); simp only [Act.put, List.setIfInBounds_toArray, List.set_cons_zero, List.set_cons_succ]))
  refine TxtZL.last (fun w' => w' = W1) (by rfl) (by rfl) (fun w1 hS1 hJ1 => ?_) ?_
  · subst hS1
    exact Eff.copy _ _ 22 22 rfl _ _ rfl rfl (Hcp1.out _ _ _) rfl
  rintro v w2 rfl
  simp only [Act.put, List.setIfInBounds_toArray, List.set_cons_zero, List.set_cons_succ]
  have hq := Hcp2.out 3 (c - i)
  go_wp2_with fail
  go_ret
  exact ⟨rfl, by rw [HW1.out]⟩

theorem ins_cells {w : World} {g i : Nat} {l : List (Int × Int)} {f t : Int} (hi : i ≤ l.length) (h0 : ∀ j, j < i * 2 → w.cell? ⟨g, j, none⟩ = (flatP l)[j]?) (h1 : w.cell? ⟨g, i * 2, none⟩ = some (.int .i64 f)) (h2 : w.cell? ⟨g, i * 2 + 1, none⟩ = some (.int .i64 t))
    (h3 : ∀ j, j < (l.length - i) * 2 → w.cell? ⟨g, (i + 1) * 2 + j, none⟩ = (flatP (l.drop i))[j]?) : ∀ j, j < (l.length + 1) * 2 → w.cell? ⟨g, j, none⟩ = (flatP (l.take i ++ (f, t) :: l.drop i))[j]? := by
  intro j hj
  have e : flatP (l.take i ++ (f, t) :: l.drop i) = (flatP l).take (i * 2) ++ (.int .i64 f :: .int .i64 t :: flatP (l.drop i)) := by
    rw [flatP_append, flatP_take l i hi]; rfl
  have hlen : ((flatP l).take (i * 2)).length = i * 2 := by rw [List.length_take, flatP_length]; omega
  rw [e]
  by_cases c1 : j < i * 2
  · rw [List.getElem?_append_left (by omega), List.getElem?_take_of_lt c1]; exact h0 j c1
  · rw [List.getElem?_append_right (by omega), hlen]
    by_cases c2 : j = i * 2
    · subst c2; rw [Nat.sub_self, h1]; rfl
    · by_cases c3 : j = i * 2 + 1
      · subst c3; rw [show i * 2 + 1 - i * 2 = 1 by omega, h2]; rfl
      · have := h3 (j - (i + 1) * 2) (by omega)
        rw [show (i + 1) * 2 + (j - (i + 1) * 2) = j by omega] at this
        rw [this, show j - i * 2 = (j - (i + 1) * 2) + 2 by omega]; rfl
def RetIns (base : Nat) (v : Value) (l : List (Int × Int)) (w : World) : Ending → World → Prop := fun e w' => ∃ A c, e = .returned (.slice A l.length c) ∧ OwnP w' base (.slice A l.length c) l ∧ w.grownBy w' v.ownBlock
theorem ins_len {l : List (Int × Int)} {i : Nat} (hi : i ≤ l.length) (f t : Int) : (l.take i ++ (f, t) :: l.drop i).length = l.length + 1 := by
  rw [List.length_append, List.length_cons, List.length_take, List.length_drop]; omega
theorem set_grown {w : World} {g o o2 : Nat} {vs us : List Value} : w.grownBy ((w.drew.setCells g o vs).setCells g o2 us) (some g) :=
  ⟨by rw [World.os_setCells, World.os_setCells]; rfl, by rw [tape_setCellsQ, tape_setCellsQ]; rfl, by rw [World.output_setCells, World.output_setCells]; rfl, by rw [size_setCellsQ, size_setCellsQ]; exact Nat.le_refl _,
    fun k hk hne => (World.heap_setCells_other _ g _ _ (by rw [size_setCellsQ]; exact hk) (fun e => hne (by rw [e]))).trans (World.heap_setCells_other w.drew g _ _ hk (fun e => hne (by rw [e])))⟩

set_option maxRecDepth 100000 in
set_option maxHeartbeats 4000000 in
/-- there is no room, and the pair comes ahead of others -/
theorem insP_grow (g n i gv base : Nat) (l : List (Int × Int)) (f t : Int) (w : World) (cur : Array Value) (hi : i < n) (hl : l.length = n) (hn6 : n ≤ 100000) (hbase : base ≤ w.heap.size)
    (hc : ∀ j v, (flatP l)[j]? = some v → w.cell? ⟨g, j, none⟩ = some v) (hB : Blk w g 54 cur) (hV : Blk w gv 54 #[.int .i64 f, .int .i64 t]) :
    Calls Tryz.prog 61 #[.slice (some ⟨g, 0, none⟩) n n, .int .i64 (i : Int), .slice (some ⟨gv, 0, none⟩) 1 1] w (RetIns base (.slice (some ⟨g, 0, none⟩) n n) (l.take i ++ (f, t) :: l.drop i) w) := by
  obtain ⟨i0, hi0, hz0, hzs, hzb⟩ := info_parts info_pair
  have hsize : (Tryz.prog.info? 54).map (·.size) = some 2 := by kernel_rfl
  have hint : Tryz.prog.underlying 3 = some (.int .i64) := by kernel_rfl
  have hmax : maxLen = 9223372036854775807 := rfl
  have hold : (Builtin.firstCells i0.size i (.slice (some ⟨g, 0, none⟩) i n)).run Tryz.prog w.drew = .ok (flatP (l.take i)).toArray w.drew := by
    rw [hzs]
    exact run_firstCells_some w.drew 2 i ⟨g, 0, none⟩ i n _ (by rw [flatP_length, List.length_take]; congr 1; omega) (fun j v hj => by
      rw [show (⟨g, 0, none⟩ : Addr).add j = ⟨g, j, none⟩ by unfold Addr.add; split <;> simp_all]
      rw [← flatP_take l i (by omega), List.getElem?_take] at hj
      split at hj
      · exact hc j v hj
      · cases hj)
  have hik : i + (n + 1 - i) = n + 1 := by omega
  have hkk : (n : Int) + 1 - (i : Int) = ((n + 1 - i : Nat) : Int) := by omega
  have hrz : ∀ ty, (Builtin.append_ #[22, 3] ty #[.slice (some ⟨g, 0, none⟩) i n, .int .i64 ((n : Int) + 1 - (i : Int))]).run Tryz.prog w =
      .ok (.slice (some ⟨w.heap.size, 0, none⟩) (n + 1) (grownCap w (n + 1) n 54)) (w.drew.alloc (.cells ((flatP (l.take i)).toArray ++ Builtin.zeroCells (Value.agg #[.int .i64 0, .int .i64 0]).cells (n + 1 - i) ++ Builtin.zeroCells (Value.agg #[.int .i64 0, .int .i64 0]).cells (grownCap w (n + 1) n 54 - (n + 1))) 54)) := fun ty => by
    have h := Lib.run_append_grow_zeros w 22 3 ty 54 i0 _ .i64 .i64 Tryz.underlying22 hint hi0 hz0 (some ⟨g, 0, none⟩) i n _ hold (n + 1 - i) (by omega) (by omega) (by omega) (by omega) (by rw [hzb]; omega) (by rw [hzb, hik]; exact growslice_fits (by omega) (by omega))
    rw [hik] at h
    rw [hkk]
    exact h
  have hge := grownCap_ge w (n + 1) n 54
  have hcm : grownCap w (n + 1) n 54 ≤ maxLen := grownCap_le_maxLen w _ n 54 (by omega)
  obtain ⟨G, hG⟩ : ∃ G, grownCap w (n + 1) n 54 = G := ⟨_, rfl⟩
  rw [hG] at hrz hge hcm
  obtain ⟨ROW, hROW⟩ : ∃ ROW : Array Value, (flatP (l.take i)).toArray ++ Builtin.zeroCells (Value.agg #[.int .i64 0, .int .i64 0]).cells (n + 1 - i) ++ Builtin.zeroCells (Value.agg #[.int .i64 0, .int .i64 0]).cells (G - (n + 1)) = ROW := ⟨_, rfl⟩
  rw [hROW] at hrz
  have hRs : ROW.size = G * 2 := by
    rw [← hROW]
    simp only [Array.size_append, List.size_toArray, size_zeroCells, flatP_length, List.length_take, Value.cells, List.size_toArray, List.length_cons, List.length_nil]
    omega
  have hRp : ∀ j, j < i * 2 → ROW[j]? = (flatP l)[j]? := fun j hj => by
    rw [← hROW, Array.getElem?_append_left (by simp only [Array.size_append, List.size_toArray, flatP_length, List.length_take]; omega), Array.getElem?_append_left (by rw [List.size_toArray, flatP_length, List.length_take]; omega), List.getElem?_toArray, ← flatP_take l i (by omega), List.getElem?_take_of_lt hj]
  obtain ⟨H, hH⟩ : ∃ H, w.heap.size = H := ⟨_, rfl⟩
  rw [hH] at hrz
  obtain ⟨W1, hW1⟩ : ∃ W1, w.drew.alloc (.cells ROW 54) = W1 := ⟨_, rfl⟩
  have hB1 : Blk W1 H 54 ROW := by rw [← hW1, ← hH]; exact Blk.new w.drew _ _
  have hb1 : Below H w W1 := by rw [← hW1, ← hH]; exact (Below.refl _ _).drew.alloc (Nat.le_refl _) _
  have hgl : g < H := by rw [← hH]; exact hB.lt
  have hvl : gv < H := by rw [← hH]; exact hV.lt
  have hg1 : Blk W1 g 54 cur := (hb1.block g hgl).trans hB
  have hv1 : Blk W1 gv 54 #[.int .i64 f, .int .i64 t] := (hb1.block gv hvl).trans hV
  rw [hW1] at hrz
  have hthere : ∀ (W : World) (cs : Array Value), Blk W H 54 cs → cs.size = G * 2 → ∀ k, k < G * 2 → (W.cell? ⟨H, k, none⟩).isSome = true := fun W cs h hs k hk => by
    rw [h.cell, Array.getElem?_eq_getElem (by omega)]; rfl
  have hcp2 : ∀ ty dc, (Builtin.copy_ #[22, 22] ty #[.slice (some ⟨H, i * 2, none⟩) (n + 1 - i) dc, .slice (some ⟨gv, 0, none⟩) 1 1]).run Tryz.prog W1 = .ok (goInt (Nat.min 1 (n + 1 - i))) (W1.setCells H (i * 2) [.int .i64 f, .int .i64 t]) := fun ty dc =>
    run_copy_cells2 W1 _ _ ty 54 H (i * 2) _ dc ⟨gv, 0, none⟩ _ 1 [.int .i64 f, .int .i64 t] 2 Tryz.underlying22 hsize (by simp only [Nat.min_def]; split <;> simp <;> omega)
      (fun j v hj => by
        rw [show (⟨gv, 0, none⟩ : Addr).add j = ⟨gv, j, none⟩ by unfold Addr.add; split <;> simp_all, hv1.cell, ← hj]
        simp)
      (fun j hj => hthere W1 ROW hB1 hRs _ (by simp at hj; omega)) (fun j _ => hB1.frozen _) (by simp [Value.oneCell'])
  obtain ⟨cur2, hB2, hs2⟩ := blk_setCells [.int .i64 f, .int .i64 t] (i * 2) W1 ROW hB1
  have hg2 : Blk (W1.setCells H (i * 2) [.int .i64 f, .int .i64 t]) g 54 cur := (World.heap_setCells_other W1 H _ _ hg1.lt (by omega)).trans hg1
  obtain ⟨W2, hW2⟩ : ∃ W2, W1.setCells H (i * 2) [.int .i64 f, .int .i64 t] = W2 := ⟨_, rfl⟩
  rw [hW2] at hcp2 hB2 hg2
  have hdl : (flatP (l.drop i)).length = (n - i) * 2 := by rw [flatP_length, List.length_drop, hl]
  have hcp1 : ∀ ty dc sc, (Builtin.copy_ #[22, 22] ty #[.slice (some ⟨H, (i + 1) * 2, none⟩) (n - i) dc, .slice (some ⟨g, i * 2, none⟩) (n - i) sc]).run Tryz.prog W2.drew = .ok (goInt (Nat.min (n - i) (n - i))) (W2.drew.setCells H ((i + 1) * 2) (flatP (l.drop i))) := fun ty dc sc =>
    run_copy_cells2 W2.drew _ _ ty 54 H ((i + 1) * 2) _ dc ⟨g, i * 2, none⟩ _ sc (flatP (l.drop i)) 2 Tryz.underlying22 hsize (by rw [hdl]; simp only [Nat.min_def]; split <;> omega)
      (fun j v hj => by
        rw [show (⟨g, i * 2, none⟩ : Addr).add j = ⟨g, i * 2 + j, none⟩ by unfold Addr.add; split <;> simp_all]
        rw [← flatP_drop l i (by omega), List.getElem?_drop] at hj
        have := hc _ v hj
        rw [hB.cell] at this
        exact (hg2.cell _).trans this)
      (fun j hj => hthere W2.drew cur2 hB2 (hs2.trans hRs) _ (by omega)) (fun j _ => hB2.frozen _) (flatP_one _)
  obtain ⟨cur3, hB3, hs3⟩ := blk_setCells (flatP (l.drop i)) ((i + 1) * 2) W2.drew cur2 hB2
  obtain ⟨W3, hW3⟩ : ∃ W3, W2.drew.setCells H ((i + 1) * 2) (flatP (l.drop i)) = W3 := ⟨_, rfl⟩
  rw [hW3] at hcp1 hB3
  have hfin : RetIns base (.slice (some ⟨g, 0, none⟩) n n) (l.take i ++ (f, t) :: l.drop i) w (.returned (.slice (some ⟨H, 0, none⟩) (n + 1) G)) W3 := by
    have hL : (l.take i ++ (f, t) :: l.drop i).length = n + 1 := by rw [ins_len (by omega), hl]
    have c1 := fun j (hj : j < 2) => World.cell?_setCells_in H [.int .i64 f, .int .i64 t] (i * 2) W1 (fun j hj => hthere W1 ROW hB1 hRs _ (by simp at hj; omega)) j hj
    refine ⟨some ⟨H, 0, none⟩, G, by rw [hL], ?_, ?_⟩
    · rw [hL]
      refine own_of_cells (by omega) hB3 hL (by omega) hcm (by omega) ?_
      rw [← hl]
      refine ins_cells (by omega) (fun j hj => ?_) ?_ ?_ (fun j hj => ?_)
      · rw [← hW3, World.cell?_setCells_out H _ _ _ _ (fun _ _ => Or.inl (by show j < (i + 1) * 2; omega))]
        show W2.cell? _ = _
        rw [← hW2, World.cell?_setCells_out H _ _ _ _ (fun _ _ => Or.inl hj), hB1.cell]
        exact hRp j hj
      · rw [← hW3, World.cell?_setCells_out H _ _ _ _ (fun _ _ => Or.inl (by show i * 2 < (i + 1) * 2; omega))]
        show W2.cell? _ = _
        rw [← hW2]
        exact c1 0 (by omega)
      · rw [← hW3, World.cell?_setCells_out H _ _ _ _ (fun _ _ => Or.inl (by show i * 2 + 1 < (i + 1) * 2; omega))]
        show W2.cell? _ = _
        rw [← hW2]
        exact c1 1 (by omega)
      · rw [← hW3, World.cell?_setCells_in H _ _ _ (fun k hk => hthere W2.drew cur2 hB2 (hs2.trans hRs) _ (by omega)) j (by omega), List.getElem?_eq_getElem]
    · have e2 : W2.heap.size = W1.heap.size := by rw [← hW2, size_setCellsQ]
      have hs1 : w.heap.size ≤ W1.heap.size := hb1.size
      refine ⟨?_, ?_, ?_, ?_, fun k hk _ => ?_⟩
      · rw [← hW3, World.os_setCells]; show W2.os = _; rw [← hW2, World.os_setCells]; exact hb1.os
      · rw [← hW3, tape_setCellsQ]; show W2.tape = _; rw [← hW2, tape_setCellsQ]; exact hb1.tape
      · rw [← hW3, World.output_setCells]; show W2.output = _; rw [← hW2, World.output_setCells]; exact hb1.output
      · rw [← hW3, size_setCellsQ]; show _ ≤ W2.heap.size; omega
      · rw [← hW3]
        refine (World.heap_setCells_other _ H _ _ (by show k < W2.heap.size; omega) (by omega)).trans ?_
        show W2.heap[k]? = _
        rw [← hW2]
        exact (World.heap_setCells_other _ H _ _ (by omega) (by omega)).trans (hb1.block k (by omega))
  have hz2 : ((i : Int) == (n : Int)) = false := by rw [beq_eq_false_iff_ne]; omega
  have hn0 : (n : Int) < (n : Int) + 1 := by omega
  have hi0 : (0 : Int) ≤ (i : Int) := by omega
  have hin : (i : Int) ≤ (n : Int) := by omega
  have hin0 : (i : Int) ≤ (n : Int) + 1 := by omega
  have hi1 : (0 : Int) ≤ (i : Int) + 1 := by omega
  have hin1 : (i : Int) + 1 ≤ (n : Int) + 1 := by omega
  have htn : ((i : Int) + 1).toNat = i + 1 := by omega
  have hw1 : IntKind.i64.wrap ((i : Int) + 1) = (i : Int) + 1 := by rw [IntKind.wrap_i64]; omega
  have hc1 : ¬ n = i := by omega
  have hc2 : ¬ G = i := by omega
  have hc3 : ¬ G = i + 1 := by omega
  have Hfin := Lib.hid hfin; have Hcp1 := Lib.hid hcp1; have Hcp2 := Lib.hid hcp2; have Hrz := Lib.hid hrz
  clear hfin hcp1 hcp2 hW3 hW2 hW1 hB1 hB2 hB3 hthere hdl hRp hRs hROW hG hold hH hkk hik hv1 hg1 hg2 hb1 hrz
  go_enter Tryz.func61, Tryz.ntmps61
  have hq2 := Hcp2.out 3 (G - i)
  go_wp2_with (at_builtin; refine Lib.wpList_append_run _ rfl _ _ _ _ rfl _ _ rfl rfl _ _ (Hrz.out _) ?_)
  refine wp_region_textZ [8] (fun w' => w' = W2.drew) (fun _ => True) (by kernel_rfl) (by kernel_rfl) (by kernel_rfl) (by kernel_rfl) rfl trivial ?_
  repeat (first
    | (refine TxtZL.skip (by rfl) ?_; simp only [Act.put, List.setIfInBounds_toArray, List.set_cons_zero, List.set_cons_succ])
    | (refine TxtZL.take (by rfl) (by rfl) ?_; apply Exists.intro; refine ⟨fun w1 hS1 => ?_, ?_⟩; (focus (subst hS1; go_simp; with_reducible rfl)); simp only [Act.put, List.setIfInBounds_toArray, List.set_cons_zero, List.set_cons_succ])
    | (refine TxtZL.takeE' (by rfl) (by rfl) ?_; apply Exists.intro; refine ⟨fun w1 hS1 => ?_, ?_⟩; (focus (subst hS1; go_simp; with_reducible rfl)); simp only [Act.put, List.setIfInBounds_toArray, List.set_cons_zero, List.set_cons_succ]))
  refine TxtZL.last (fun w' => w' = W3) (by rfl) (by rfl) (fun w1 hS1 hJ1 => ?_) ?_
  · subst hS1
    exact Eff.copy _ _ 22 22 rfl _ _ rfl rfl (Hcp1.out _ _ _) rfl
  rintro v w2 rfl
  simp only [Act.put, List.setIfInBounds_toArray, List.set_cons_zero, List.set_cons_succ]
  go_wp2_with fail
  go_ret
  exact Hfin.out

set_option maxRecDepth 100000 in
set_option maxHeartbeats 4000000 in
theorem insertP_any (A : Option Addr) (c i gv base : Nat) (l : List (Int × Int)) (f t : Int) (w : World) (hown : OwnP w base (.slice A l.length c) l) (hi : i ≤ l.length) (hl : l.length ≤ 100000) (hbase : base ≤ w.heap.size) (hV : Blk w gv 54 #[.int .i64 f, .int .i64 t])
    (hne : ∀ k, (Value.slice A l.length c).ownBlock = some k → gv ≠ k) :
    Calls Tryz.prog 61 #[.slice A l.length c, .int .i64 (i : Int), .slice (some ⟨gv, 0, none⟩) 1 1] w (RetIns base (.slice A l.length c) (l.take i ++ (f, t) :: l.drop i) w) := by
  by_cases hin : i = l.length
  · subst hin
    have hL : l.take l.length ++ (f, t) :: l.drop l.length = l ++ [(f, t)] := by rw [List.take_length, List.drop_length]
    rw [hL]
    have hrp : RP w (some ⟨gv, 0, none⟩) [(f, t)] := fun k hk => by
      have : k = 0 := by simp at hk; omega
      subst this
      exact ⟨gv, 0, rfl, by rw [hV.cell]; rfl, by rw [hV.cell]; rfl⟩
    by_cases hcl : c = l.length
    · subst hcl
      have Hown := Lib.hid hown
      have hbnd : (0 : Int) ≤ (l.length : Int) := by omega
      clear hown hL hne hV
      go_enter Tryz.func61, Tryz.ntmps61
      go_wp2_with (at_builtin; refine wpList_appPs (by rfl) _ _ (by rfl) w base _ l (some ⟨gv, 0, none⟩) [(f, t)] 1 Hown.out hrp (by simp) (by rfl) (by rfl) (by simp; omega) hbase ?_; intro v' w1 ho hb1 hg1; (obtain ⟨A', c', rfl, _, _⟩ := OwnP.form ho); have Ho := Lib.hid ho; have Hg1 := Lib.hid hg1; clear ho hb1 hg1)
      go_ret
      exact ⟨A', c', by simp, Ho.out, Hg1.out⟩
    · have Hown := Lib.hid hown
      have hbnd : (0 : Int) ≤ (l.length : Int) := by omega
      clear hown hL hne hV
      go_enter Tryz.func61, Tryz.ntmps61
      go_wp2_with (at_builtin; refine wpList_appPs (by rfl) _ _ (by rfl) w base _ l (some ⟨gv, 0, none⟩) [(f, t)] 1 Hown.out hrp (by simp) (by rfl) (by rfl) (by simp; omega) hbase ?_; intro v' w1 ho hb1 hg1; (obtain ⟨A', c', rfl, _, _⟩ := OwnP.form ho); have Ho := Lib.hid ho; have Hg1 := Lib.hid hg1; clear ho hb1 hg1)
      go_ret
      exact ⟨A', c', by simp, Ho.out, Hg1.out⟩
  · have hlt : i < l.length := by omega
    have hcell : ∀ g, A = some ⟨g, 0, none⟩ → ∀ j v, (flatP l)[j]? = some v → w.cell? ⟨g, j, none⟩ = some v := fun g e j v h => by
      subst e
      have := hown.cells (g := g) rfl j v h
      rwa [show (⟨g, 0, none⟩ : Addr).add j = ⟨g, j, none⟩ by unfold Addr.add; split <;> simp_all] at this
    have hown' := hown
    rcases hown.2 with ⟨e, h0⟩ | ⟨g, cap, cur, e, hbg, hg, hle, hm, hs, _⟩
    · omega
    · injection e with e1 _ e3
      subst e1 e3
      have hmax : maxLen = 9223372036854775807 := rfl
      by_cases hroom : l.length + 1 ≤ c
      · refine (insP_shift g c l.length i gv l f t w cur hlt rfl hroom (by omega) (hne g rfl) (hcell g rfl) hg hs hV).mono ?_
        rintro e w' ⟨rfl, rfl⟩
        have hthere : ∀ (W : World) (cs : Array Value), Blk W g 54 cs → cs.size = cur.size → ∀ k, k < c * 2 → (W.cell? ⟨g, k, none⟩).isSome = true := fun W cs h hs' k hk => by
          rw [h.cell, Array.getElem?_eq_getElem (by omega)]; rfl
        have hdl : (flatP (l.drop i)).length = (l.length - i) * 2 := by rw [flatP_length, List.length_drop]
        have hB : Blk w.drew g 54 cur := hg
        obtain ⟨cur1, hB1, hs1⟩ := blk_setCells (flatP (l.drop i)) ((i + 1) * 2) w.drew cur hB
        obtain ⟨cur2, hB2, hs2⟩ := blk_setCells [.int .i64 f, .int .i64 t] (i * 2) _ cur1 hB1
        have hL := ins_len hi f t
        have c1 := fun j (hj : j < 2) => World.cell?_setCells_in g [.int .i64 f, .int .i64 t] (i * 2) _ (fun j hj => hthere _ cur1 hB1 hs1 _ (by simp at hj; omega)) j hj
        refine ⟨some ⟨g, 0, none⟩, c, by rw [hL], ?_, set_grown⟩
        rw [hL]
        refine own_of_cells hbg hB2 hL hroom hm (by omega) ?_
        refine ins_cells hi (fun j hj => ?_) ?_ ?_ (fun j hj => ?_)
        · rw [World.cell?_setCells_out g _ _ _ _ (fun _ _ => Or.inl hj), World.cell?_setCells_out g _ _ _ _ (fun _ _ => Or.inl (by show j < (i + 1) * 2; omega))]
          show w.cell? _ = _
          have hjl : j < (flatP l).length := by rw [flatP_length]; omega
          rw [List.getElem?_eq_getElem hjl]
          exact hcell g rfl j _ (List.getElem?_eq_getElem hjl)
        · exact c1 0 (by omega)
        · exact c1 1 (by omega)
        · rw [World.cell?_setCells_out g _ _ _ _ (fun _ _ => Or.inr (by show i * 2 + 2 ≤ (i + 1) * 2 + j; omega)), World.cell?_setCells_in g _ _ _ (fun k hk => hthere w.drew cur hB rfl _ (by omega)) j (by omega), List.getElem?_eq_getElem]
      · have hcn : c = l.length := by omega
        subst hcn
        exact insP_grow g l.length i gv base l f t w cur hlt rfl hl hbase (hcell g rfl) hg hV
end Go.Proofs.YtkflanjlnbdkmaaGreatDoor

/- slices.IndexFunc, slices.DeleteFunc at pairs with the closures of dynamic.change. -/
namespace Go.Proofs.YtkflanjlnbdkmaaGreatDoor
open Go.ChangeShapes Go.WideShapes Go.ChangeAt Go.RowKit

def eq2 (f t : Int) (x : Int × Int) : Bool := x.1 == f && x.2 == t
def mx3 (N : Int) (x : Int × Int) : Bool := max x.1 x.2 == N
/-- what the closure of number 2 has caught -/
def cap2 (W : World) (q : Nat) (a b : Int) (_ : Value) : Prop := Blk W q 54 #[.int .i64 a, .int .i64 b]
def cap3 (W : World) (q : Nat) (a _ : Int) (v : Value) : Prop := Blk W q 24 #[.int .i64 a, v]
def pr2 (a b : Int) : Int × Int → Bool := eq2 a b
def pr3 (a _ : Int) : Int × Int → Bool := mx3 a
theorem cap2.block {W W' : World} {q : Nat} {a b : Int} {v : Value} (h : cap2 W q a b v) (e : W'.heap[q]? = W.heap[q]?) : cap2 W' q a b v := e.trans h
theorem cap3.block {W W' : World} {q : Nat} {a b : Int} {v : Value} (h : cap3 W q a b v) (e : W'.heap[q]? = W.heap[q]?) : cap3 W' q a b v := e.trans h
theorem cap2.lt {W : World} {q : Nat} {a b : Int} {v : Value} (h : cap2 W q a b v) : q < W.heap.size := Blk.lt h
theorem cap3.lt {W : World} {q : Nat} {a b : Int} {v : Value} (h : cap3 W q a b v) : q < W.heap.size := Blk.lt h
set_option maxHeartbeats 1000000 in
theorem dch2_any (W : World) (q : Nat) (a b : Int) (v : Value) (hc : cap2 W q a b v) (x y : Int) : Calls Tryz.prog 63 #[.agg #[.int .i64 x, .int .i64 y], .pointer (some ⟨q, 0, none⟩)] W (RetX (.bool (pr2 a b (x, y))) W) := by
  have hgd := run_gdP
  have heq := run_eqlP x y a b
  have hpr : pr2 a b (x, y) = (x == a && y == b) := rfl
  obtain ⟨r, hr⟩ : ∃ r, (x == a && y == b) = r := ⟨_, rfl⟩
  rw [hr] at heq hpr
  have Hpr := Lib.hid hpr
  clear hr hpr
  have hlt := hc.lt
  go_enter Tryz.func63, Tryz.ntmps63
  go_upto_region 1 with fail
  obtain ⟨W0, hW, c0, c1, hb0, hlt0⟩ := boxed W 54 (.int .i64 x) (.int .i64 y)
  have hG : Grew W W0 := by rw [← hW]; exact (Grew.refl W).alloc _
  rw [hW]
  have hc0 : cap2 W0 q a b v := hc.block (hb0.block q hlt)
  obtain ⟨d0, d1, _, _⟩ := Blk.two hc0
  clear hW hc
  go_wp2_with fail
  go_ret
  rw [Hpr.out]
  exact ⟨rfl, by first | exact hG | exact hG.drew | exact hG.drewN _⟩
set_option maxHeartbeats 1000000 in
theorem dch3_any (W : World) (q : Nat) (a b : Int) (v : Value) (hc : cap3 W q a b v) (x y : Int) : Calls Tryz.prog 64 #[.agg #[.int .i64 x, .int .i64 y], .pointer (some ⟨q, 0, none⟩)] W (RetX (.bool (pr3 a b (x, y))) W) := by
  have hpr : pr3 a b (x, y) = (max x y == a) := rfl
  have Hpr := Lib.hid hpr
  clear hpr
  have hlt := hc.lt
  go_enter Tryz.func64, Tryz.ntmps64
  go_upto_region 1 with fail
  obtain ⟨W0, hW, c0, c1, hb0, hlt0⟩ := boxed W 54 (.int .i64 x) (.int .i64 y)
  have hG : Grew W W0 := by rw [← hW]; exact (Grew.refl W).alloc _
  rw [hW]
  have hc0 : cap3 W0 q a b v := hc.block (hb0.block q hlt)
  obtain ⟨d0, d1, _, _⟩ := Blk.two hc0
  clear hW hc
  go_wp2_with fail
  go_ret
  rw [Hpr.out]
  exact ⟨rfl, by first | exact hG | exact hG.drew | exact hG.drewN _⟩

/-- the first place at which p holds -/
def RetIf (p : Int × Int → Bool) (l : List (Int × Int)) (w : World) : Ending → World → Prop := fun e w' => ∃ r : Int, e = .returned (.int .i64 r) ∧ ((r = -1 ∧ ∀ x ∈ l, p x = false) ∨ ∃ (k : Nat) (hk : k < l.length), r = (k : Int) ∧ (∀ x ∈ l.take k, p x = false) ∧ p l[k] = true) ∧ Below w.heap.size w w'
set_option maxRecDepth 100000 in
set_option maxHeartbeats 2000000 in
theorem idxF2_any (A : Option Addr) (l : List (Int × Int)) (c q : Nat) (a b : Int) (v : Value) (w : World) (hr : RP w A l) (hl : l.length ≤ 100000) (hc : cap2 w q a b v) :
    Calls Tryz.prog 80 #[.slice A l.length c, .func (.func 63) #[] #[.pointer (some ⟨q, 0, none⟩)]] w (RetIf (pr2 a b) l w) := by
  have Hc := Lib.hid hc
  clear hc
  go_enter Tryz.func80, Tryz.ntmps80
  go_wp2_with fail
  go_loopw [8] (fun i wr => ∃ k : Nat, k ≤ l.length ∧ i = .int .i64 k ∧ (∀ x ∈ l.take k, pr2 a b x = false) ∧ Below w.heap.size w wr) (fun i _ => l.length - (intOf i).toNat)
  case atStart => exact ⟨0, Nat.zero_le _, rfl, by simp, Below.refl _ _⟩
  case round =>
    obtain ⟨k, hk, rfl, hi, hbl⟩ := hrel
    have Hi := Lib.hid hi; clear hi
    by_cases hlt : k < l.length
    case neg =>
      have hall : ∀ x ∈ l, pr2 a b x = false := by have := Hi.out; rwa [List.take_of_length_le (by omega)] at this
      have Hall := Lib.hid hall
      clear hall
      go_wp2_with fail
      go_ret
      exact ⟨-1, rfl, .inl ⟨rfl, Hall.out⟩, hbl⟩
    case pos =>
    obtain ⟨b', o, rfl, hc0, hc1⟩ := (hr.below hbl).at_ hlt
    have hcc := Hc.out.block (hbl.block q Hc.out.lt)
    have hlt' : (k : Int) < (l.length : Int) := by omega
    have hcall := fun W (h : cap2 W q a b v) => dch2_any W q a b v h l[k].1 l[k].2
    have hpk : pr2 a b l[k] = pr2 a b (l[k].1, l[k].2) := rfl
    have hnx : pr2 a b l[k] = false → ∀ x ∈ l.take (k + 1), pr2 a b x = false := fun h x hx => by
      rw [List.take_succ_eq_append_getElem hlt, List.mem_append, List.mem_singleton] at hx
      rcases hx with hx | rfl
      · exact Hi.out x hx
      · exact h
    have hyes : pr2 a b l[k] = true → ∃ (k' : Nat) (hk' : k' < l.length), (k : Int) = (k' : Int) ∧ (∀ x ∈ l.take k', pr2 a b x = false) ∧ pr2 a b l[k'] = true := fun h => ⟨k, hlt, rfl, Hi.out, h⟩
    rw [hpk] at hnx hyes
    have Hnx := Lib.hid hnx; have Hyes := Lib.hid hyes; have Hcall := Lib.hid hcall
    clear hnx hyes hcall hpk
    generalize l[k].1 = x at *
    generalize l[k].2 = y at *
    obtain ⟨r, hrr⟩ : ∃ r, pr2 a b (x, y) = r := ⟨_, rfl⟩
    cases r
    · have HH := Lib.hid (Hnx.out hrr)
      have hcl := Hcall.out wr hcc
      rw [hrr] at hcl
      clear hrr Hnx Hyes Hcall
      go_wp2_with fail
      refine hcl.mono ?_
      rintro e w1 ⟨rfl, hg1⟩
      have hb1 := endB hbl hg1.below
      clear hcl hg1
      go_wp2_with fail
      go_roundw
      case rel => exact ⟨k + 1, by omega, by go_num, HH.out, hb1⟩
      case measure => simp [intOf]; omega
    · have HH := Lib.hid (Hyes.out hrr)
      have hcl := Hcall.out wr hcc
      rw [hrr] at hcl
      clear hrr Hnx Hyes Hcall
      go_wp2_with fail
      refine hcl.mono ?_
      rintro e w1 ⟨rfl, hg1⟩
      have hb1 := endB hbl hg1.below
      clear hcl hg1
      go_wp2_with fail
      go_ret
      exact ⟨k, rfl, .inr HH.out, hb1⟩
set_option maxRecDepth 100000 in
set_option maxHeartbeats 2000000 in
theorem idxF3_any (A : Option Addr) (l : List (Int × Int)) (c q : Nat) (a b : Int) (v : Value) (w : World) (hr : RP w A l) (hl : l.length ≤ 100000) (hc : cap3 w q a b v) :
    Calls Tryz.prog 80 #[.slice A l.length c, .func (.func 64) #[] #[.pointer (some ⟨q, 0, none⟩)]] w (RetIf (pr3 a b) l w) := by
  have Hc := Lib.hid hc
  clear hc
  go_enter Tryz.func80, Tryz.ntmps80
  go_wp2_with fail
  go_loopw [8] (fun i wr => ∃ k : Nat, k ≤ l.length ∧ i = .int .i64 k ∧ (∀ x ∈ l.take k, pr3 a b x = false) ∧ Below w.heap.size w wr) (fun i _ => l.length - (intOf i).toNat)
  case atStart => exact ⟨0, Nat.zero_le _, rfl, by simp, Below.refl _ _⟩
  case round =>
    obtain ⟨k, hk, rfl, hi, hbl⟩ := hrel
    have Hi := Lib.hid hi; clear hi
    by_cases hlt : k < l.length
    case neg =>
      have hall : ∀ x ∈ l, pr3 a b x = false := by have := Hi.out; rwa [List.take_of_length_le (by omega)] at this
      have Hall := Lib.hid hall
      clear hall
      go_wp2_with fail
      go_ret
      exact ⟨-1, rfl, .inl ⟨rfl, Hall.out⟩, hbl⟩
    case pos =>
    obtain ⟨b', o, rfl, hc0, hc1⟩ := (hr.below hbl).at_ hlt
    have hcc := Hc.out.block (hbl.block q Hc.out.lt)
    have hlt' : (k : Int) < (l.length : Int) := by omega
    have hcall := fun W (h : cap3 W q a b v) => dch3_any W q a b v h l[k].1 l[k].2
    have hpk : pr3 a b l[k] = pr3 a b (l[k].1, l[k].2) := rfl
    have hnx : pr3 a b l[k] = false → ∀ x ∈ l.take (k + 1), pr3 a b x = false := fun h x hx => by
      rw [List.take_succ_eq_append_getElem hlt, List.mem_append, List.mem_singleton] at hx
      rcases hx with hx | rfl
      · exact Hi.out x hx
      · exact h
    have hyes : pr3 a b l[k] = true → ∃ (k' : Nat) (hk' : k' < l.length), (k : Int) = (k' : Int) ∧ (∀ x ∈ l.take k', pr3 a b x = false) ∧ pr3 a b l[k'] = true := fun h => ⟨k, hlt, rfl, Hi.out, h⟩
    rw [hpk] at hnx hyes
    have Hnx := Lib.hid hnx; have Hyes := Lib.hid hyes; have Hcall := Lib.hid hcall
    clear hnx hyes hcall hpk
    generalize l[k].1 = x at *
    generalize l[k].2 = y at *
    obtain ⟨r, hrr⟩ : ∃ r, pr3 a b (x, y) = r := ⟨_, rfl⟩
    cases r
    · have HH := Lib.hid (Hnx.out hrr)
      have hcl := Hcall.out wr hcc
      rw [hrr] at hcl
      clear hrr Hnx Hyes Hcall
      go_wp2_with fail
      refine hcl.mono ?_
      rintro e w1 ⟨rfl, hg1⟩
      have hb1 := endB hbl hg1.below
      clear hcl hg1
      go_wp2_with fail
      go_roundw
      case rel => exact ⟨k + 1, by omega, by go_num, HH.out, hb1⟩
      case measure => simp [intOf]; omega
    · have HH := Lib.hid (Hyes.out hrr)
      have hcl := Hcall.out wr hcc
      rw [hrr] at hcl
      clear hrr Hnx Hyes Hcall
      go_wp2_with fail
      refine hcl.mono ?_
      rintro e w1 ⟨rfl, hg1⟩
      have hb1 := endB hbl hg1.below
      clear hcl hg1
      go_wp2_with fail
      go_ret
      exact ⟨k, rfl, .inr HH.out, hb1⟩
end Go.Proofs.YtkflanjlnbdkmaaGreatDoor

/- slices.DeleteFunc at pairs with the closures of dynamic.change. -/
namespace Go.Proofs.YtkflanjlnbdkmaaGreatDoor
open Go.ChangeShapes Go.WideShapes Go.ChangeAt Go.RowKit

theorem zero_cells_one (n : Nat) : ∀ v ∈ (Builtin.zeroCells (Value.cells (.agg #[.int .i64 0, .int .i64 0])) n).toList, v.oneCell' = true := by
  intro v hv
  simp only [Builtin.zeroCells, Value.cells] at hv
  simp at hv
  obtain ⟨i, _, rfl⟩ := hv
  have : i % 2 = 0 ∨ i % 2 = 1 := by omega
  rcases this with h | h <;> simp [h] <;> rfl
theorem run_clear2 (w : World) (ty : TypeId) (b o n c : Nat) (hn : 0 < n) (hc : ∀ j, j < n * 2 → (w.cell? ⟨b, o + j, none⟩).isSome = true) (hf : ∀ j, w.frozen? ⟨b, j, none⟩ = false) :
    (Builtin.clear_ #[22] ty #[.slice (some ⟨b, o, none⟩) n c]).run Tryz.prog w = .ok (.tuple #[]) (w.setCells b o (Builtin.zeroCells (Value.cells (.agg #[.int .i64 0, .int .i64 0])) n).toList) := by
  have hlen : (Builtin.zeroCells (Value.cells (.agg #[.int .i64 0, .int .i64 0])) n).toList.length = n * 2 := by rw [Array.length_toList, size_zeroCells]; rfl
  have hst := run_storeCells_cells (P := Tryz.prog) b o (Builtin.zeroCells (Value.cells (.agg #[.int .i64 0, .int .i64 0])) n).toList 0 w (by rw [hlen]; simpa using hc) (fun j _ => hf _) (zero_cells_one n)
  simp only [Nat.add_zero] at hst
  obtain ⟨m, rfl⟩ : ∃ m, n = m + 1 := ⟨n - 1, by omega⟩
  simp [Builtin.clear_, run_underlying Tryz.underlying22, hst]

/-- the list that is kept so far, in place -/
structure DelS (W : World) (g c : Nat) (cur0 : Array Value) (l : List (Int × Int)) (p : Int × Int → Bool) (i j : Nat) (wr : World) : Prop where
  blk : ∃ cur, Blk wr g 54 cur ∧ cur.size = c * 2 ∧ (∀ x, x < i * 2 → cur[x]? = (flatP ((l.take j).filter fun q => !p q))[x]?) ∧ ∀ x, j * 2 ≤ x → cur[x]? = cur0[x]?
  len : i = ((l.take j).filter fun q => !p q).length
  grown : W.grownBy wr (some g)
theorem DelS.alloc {W wr w' : World} {g c : Nat} {cur0 : Array Value} {l : List (Int × Int)} {p : Int × Int → Bool} {i j : Nat} (h : DelS W g c cur0 l p i j wr) (hb : Below wr.heap.size wr w') : DelS W g c cur0 l p i j w' := by
  obtain ⟨cur, h1, h2⟩ := h.blk
  exact ⟨⟨cur, h1.below hb h1.lt, h2⟩, h.len, grownBy_trans h.grown (grownBy_of_below hb _)⟩
theorem DelS.skip {W wr : World} {g c : Nat} {cur0 : Array Value} {l : List (Int × Int)} {p : Int × Int → Bool} {i j : Nat} (h : DelS W g c cur0 l p i j wr) (hj : j < l.length) (hp : p l[j] = true) : DelS W g c cur0 l p i (j + 1) wr := by
  have e : (l.take (j + 1)).filter (fun q => !p q) = (l.take j).filter fun q => !p q := by
    rw [List.take_succ_eq_append_getElem hj, List.filter_append]; simp [hp]
  obtain ⟨cur, h1, h2, h3, h4⟩ := h.blk
  exact ⟨⟨cur, h1, h2, by rw [e]; exact h3, fun x hx => h4 x (by omega)⟩, by rw [e]; exact h.len, h.grown⟩
theorem DelS.keep {W wr : World} {g c : Nat} {cur0 : Array Value} {l : List (Int × Int)} {p : Int × Int → Bool} {i j : Nat} (h : DelS W g c cur0 l p i j wr) (hj : j < l.length) (hij : i < j) (hc : l.length ≤ c) (hp : p l[j] = false) :
    DelS W g c cur0 l p (i + 1) (j + 1) ((wr.setCell ⟨g, i * 2, none⟩ (.int .i64 l[j].1)).setCell ⟨g, i * 2 + 1, none⟩ (.int .i64 l[j].2)) := by
  have e : (l.take (j + 1)).filter (fun q => !p q) = ((l.take j).filter fun q => !p q) ++ [l[j]] := by
    rw [List.take_succ_eq_append_getElem hj, List.filter_append]; simp [hp]
  obtain ⟨cur, h1, h2, h3, h4⟩ := h.blk
  refine ⟨⟨_, (h1.set_ (i * 2) _).set_ (i * 2 + 1) _, by simpa using h2, fun x hx => ?_, fun x hx => ?_⟩, by rw [e, List.length_append, ← h.len]; rfl, grownBy_trans (grownBy_trans h.grown (grownBy_setCell _ _ _ _)) (grownBy_setCell _ _ _ _)⟩
  · rw [e, flatP_append]
    have hl : (flatP ((l.take j).filter fun q => !p q)).length = i * 2 := by rw [flatP_length, ← h.len]
    by_cases c1 : x < i * 2
    · rw [Array.getElem?_setIfInBounds_ne (by omega), Array.getElem?_setIfInBounds_ne (by omega), List.getElem?_append_left (by omega)]
      exact h3 x c1
    · rw [List.getElem?_append_right (by omega), hl]
      by_cases c2 : x = i * 2
      · subst c2
        rw [Array.getElem?_setIfInBounds_ne (by omega), Array.getElem?_setIfInBounds_self_of_lt (by omega), Nat.sub_self]; rfl
      · have c3 : x = i * 2 + 1 := by omega
        subst c3
        rw [Array.getElem?_setIfInBounds_self_of_lt (by simp; omega), show i * 2 + 1 - i * 2 = 1 by omega]; rfl
  · rw [Array.getElem?_setIfInBounds_ne (by omega), Array.getElem?_setIfInBounds_ne (by omega)]
    exact h4 x (by omega)
theorem DelS.done {W wr : World} {g c base : Nat} {cur0 : Array Value} {l : List (Int × Int)} {p : Int × Int → Bool} {i j : Nat} (h : DelS W g c cur0 l p i j wr) (hj : l.length ≤ j) (hb : base ≤ g) (hi : i ≤ c) (hm : c ≤ maxLen) (vs : List Value) :
    (l.filter fun q => !p q).length = i ∧ OwnP (wr.setCells g (i * 2) vs) base (.slice (some ⟨g, 0, none⟩) i c) (l.filter fun q => !p q) ∧ W.grownBy (wr.setCells g (i * 2) vs) (some g) := by
  obtain ⟨cur, h1, h2, h3, h4⟩ := h.blk
  have hl := h.len
  rw [List.take_of_length_le hj] at h3 hl
  obtain ⟨cur', h1', h2'⟩ := blk_setCells vs (i * 2) wr cur h1
  refine ⟨hl.symm, own_of_cells hb h1' hl.symm hi hm (by omega) (fun x hx => ?_), grownBy_trans h.grown ⟨World.os_setCells _ _ _ _, tape_setCellsQ _ _ _ _, World.output_setCells _ _ _ _, by rw [size_setCellsQ]; exact Nat.le_refl _, fun k hk hne => World.heap_setCells_other _ g _ _ hk (fun e => hne (by rw [e]))⟩⟩
  rw [World.cell?_setCells_out g _ _ _ _ (fun _ _ => Or.inl hx), h1.cell]
  exact h3 x hx

set_option maxRecDepth 100000 in
set_option maxHeartbeats 4000000 in
theorem delF2_any (A : Option Addr) (l : List (Int × Int)) (c q base : Nat) (a b : Int) (v : Value) (w : World) (hown : OwnP w base (.slice A l.length c) l) (hl : l.length ≤ 100000) (hc : cap2 w q a b v) (hne : ∀ k, (Value.slice A l.length c).ownBlock = some k → q ≠ k) :
    Calls Tryz.prog 62 #[.slice A l.length c, .func (.func 63) #[] #[.pointer (some ⟨q, 0, none⟩)]] w (RetIns base (.slice A l.length c) (l.filter fun x => !pr2 a b x) w) := by
  obtain ⟨A', c', e, hrp, hnil⟩ := OwnP.form hown
  injection e with e1 _ e3
  subst e1 e3
  have hidx := idxF2_any A l c q a b v w hrp hl hc
  have Hc := Lib.hid hc; have Hown := Lib.hid hown; have Hidx := Lib.hid hidx; have Hne := Lib.hid hne
  clear hc hown hidx hne hrp
  go_enter Tryz.func62, Tryz.ntmps62
  go_wp2_with fail
  refine Hidx.out.mono ?_
  rintro e w1 ⟨r, rfl, hr, hb1⟩
  rcases hr with ⟨rfl, hnone⟩ | ⟨k, hk, rfl, hpre, hyes⟩
  · have hfil : (l.filter fun x => !pr2 a b x) = l := List.filter_eq_self.2 fun x hx => by rw [hnone x hx]; rfl
    have Hfil := Lib.hid hfil; have Hb1 := Lib.hid hb1
    clear hfil hnone hb1
    go_wp2_with fail
    go_ret
    rw [Hfil.out]
    exact ⟨A, c, rfl, Hown.out.below Hb1.out, grownBy_of_below Hb1.out _⟩
  have hown := Hown.out
  rcases hown.2 with ⟨e, h0⟩ | ⟨g, cap, cur0, e, hbg, hg, hle, hm, hs, htake⟩
  · omega
  injection e with e1 _ e3
  subst e1 e3
  have hgw : g < w.heap.size := Blk.lt hg
  have hmax : maxLen = 9223372036854775807 := rfl
  have hcell : ∀ x, x < l.length * 2 → cur0[x]? = (flatP l)[x]? := fun x hx => by
    rw [← htake, List.getElem?_take_of_lt hx, Array.getElem?_toList]
  have hkb : ((k : Int) == -1) = false := by rw [beq_eq_false_iff_ne]; omega
  have hfk : (l.take (k + 1)).filter (fun x => !pr2 a b x) = l.take k := by
    rw [List.take_succ_eq_append_getElem hk, List.filter_append, List.filter_eq_self.2 (fun x hx => by rw [hpre x hx]; rfl)]
    simp [hyes]
  have hst : DelS w g c cur0 l (pr2 a b) k (k + 1) w1 := by
    refine ⟨⟨cur0, (hb1.block g hgw).trans hg, hs, fun x hx => ?_, fun _ _ => rfl⟩, by rw [hfk, List.length_take]; omega, grownBy_of_below hb1 _⟩
    rw [hfk, ← flatP_take l k (by omega), List.getElem?_take_of_lt hx]
    exact hcell x (by omega)
  have Hst := Lib.hid hst; have Hcell := Lib.hid hcell
  have hcq := Hc.out.block (hb1.block q Hc.out.lt)
  have hqg : q ≠ g := Hne.out g rfl
  have Hcq := Lib.hid hcq
  clear hown htake hst hcell hfk hpre hyes hg hcq hb1
  go_wp2_with fail
  go_loopw [5, 6] (fun t5 t6 wr => ∃ i j : Nat, i < j ∧ j ≤ l.length ∧ t5 = .int .i64 i ∧ t6 = .int .i64 j ∧ DelS w g c cur0 l (pr2 a b) i j wr ∧ cap2 wr q a b v) (fun _ t6 _ => l.length - (intOf t6).toNat)
  case atStart => exact ⟨k, k + 1, by omega, by omega, rfl, by go_num, Hst.out, Hcq.out⟩
  case round =>
    clear Hst Hcq hkb hk
    obtain ⟨i, j, hij, hjl, rfl, rfl, hds, hcr⟩ := hrel
    have Hds := Lib.hid hds; have Hcr := Lib.hid hcr
    obtain ⟨cur, hB, hcs, -, hrest⟩ := hds.blk
    by_cases hlt : j < l.length
    case neg =>
      have hlt' : ¬ (j : Int) < (l.length : Int) := by omega
      have hi0 : (0 : Int) ≤ (i : Int) := by omega
      have hin : (i : Int) ≤ (l.length : Int) := by omega
      have hic : (i : Int) ≤ (c : Int) := by omega
      have hne : ¬ c = i := by omega
      have hcl := run_clear2 wr 0 g (i * 2) (l.length - i) (c - i) (by omega) (fun x hx => by rw [hB.cell, Array.getElem?_eq_getElem (by omega)]; rfl) (fun x => hB.frozen x)
      obtain ⟨h1, h2, h3⟩ := hds.done (base := base) (by omega) hbg (by omega) hm (Builtin.zeroCells (Value.cells (.agg #[.int .i64 0, .int .i64 0])) (l.length - i)).toList
      obtain ⟨W', hW'⟩ : ∃ W', wr.setCells g (i * 2) (Builtin.zeroCells (Value.cells (.agg #[.int .i64 0, .int .i64 0])) (l.length - i)).toList = W' := ⟨_, rfl⟩
      rw [hW'] at hcl h2 h3
      have H1 := Lib.hid h1; have H2 := Lib.hid h2; have H3 := Lib.hid h3
      clear hds hcr hB hrest hW' h1 h2 h3 Hds hlt
      go_wp2_with fail
      go_ret
      exact ⟨some ⟨g, 0, none⟩, c, by rw [H1.out]; rfl, by rw [H1.out]; exact H2.out, H3.out⟩
    case pos =>
    have hlt' : (j : Int) < (l.length : Int) := by omega
    have hj0 : (0 : Int) ≤ (j : Int) := by omega
    have hi0 : (0 : Int) ≤ (i : Int) := by omega
    have hin : (i : Int) < (l.length : Int) := by omega
    have c0 : wr.cell? ⟨g, j * 2, none⟩ = some (.int .i64 l[j].1) := by
      rw [hB.cell, hrest _ (by omega), Hcell.out _ (by omega), (flatP_at l j hlt).1]; simp [List.getD, hlt]
    have c1 : wr.cell? ⟨g, j * 2 + 1, none⟩ = some (.int .i64 l[j].2) := by
      rw [hB.cell, hrest _ (by omega), Hcell.out _ (by omega), (flatP_at l j hlt).2]; simp [List.getD, hlt]
    have hcall := fun W (h : cap2 W q a b v) => dch2_any W q a b v h l[j].1 l[j].2
    have hk := fun W (h : DelS w g c cur0 l (pr2 a b) i j W) hp => h.keep hlt hij hle hp
    have hs2 := fun W (h : DelS w g c cur0 l (pr2 a b) i j W) hp => h.skip hlt hp
    rw [show pr2 a b l[j] = pr2 a b (l[j].1, l[j].2) from rfl] at hk hs2
    have Hcall := Lib.hid hcall; have Hk := Lib.hid hk; have Hs2 := Lib.hid hs2
    clear hds hcr hB hrest hcall hk hs2
    generalize l[j].1 = x at *
    generalize l[j].2 = y at *
    obtain ⟨r, hrr⟩ : ∃ r, pr2 a b (x, y) = r := ⟨_, rfl⟩
    have Hrr := Lib.hid hrr
    go_upto_region 8 with fail
    obtain ⟨W3, hW3, d0, d1, hb3, hlt3⟩ := boxed wr 54 (.int .i64 x) (.int .i64 y)
    rw [hW3]
    have hds3 := Hds.out.alloc hb3
    have hcr3 := Hcr.out.block (hb3.block q Hcr.out.lt)
    have hcl := Hcall.out W3 hcr3
    have Hds3 := Lib.hid hds3; have Hcr3 := Lib.hid hcr3
    clear hW3 hds3 hcr3 c0 c1 Hds Hcr Hcall
    cases r
    · rw [hrr] at hcl
      clear hrr
      go_wp2_with fail
      refine hcl.mono ?_
      rintro e w2 ⟨rfl, hg2⟩
      have hb2 := hg2.below
      have hds2 := Hds3.out.alloc hb2
      have e0 := (hb2.cell (lt_of_cell d0)).trans d0
      have e1 := (hb2.cell (lt_of_cell d1)).trans d1
      have hcr2 := Hcr3.out.block (hb2.block q Hcr3.out.lt)
      obtain ⟨cur2, hB2, hcs2, -, -⟩ := hds2.blk
      have k0 : w2.cell? ⟨g, i * 2, none⟩ = some cur2[i * 2] := by rw [hB2.cell, Array.getElem?_eq_getElem (by omega)]
      have k1 : w2.cell? ⟨g, i * 2 + 1, none⟩ = some cur2[i * 2 + 1] := by rw [hB2.cell, Array.getElem?_eq_getElem (by omega)]
      have f0 := hB2.frozen (i * 2)
      have f1 := hB2.frozen (i * 2 + 1)
      have hfin := Hk.out w2 hds2 Hrr.out
      have hcr4 := (hcr2.block (Below.heap_setCell w2 ⟨g, i * 2, none⟩ (.int .i64 x) q hqg)).block (Below.heap_setCell _ ⟨g, i * 2 + 1, none⟩ (.int .i64 y) q hqg)
      have Hfin := Lib.hid hfin; have Hcr4 := Lib.hid hcr4
      generalize cur2[i * 2] = z0 at *
      generalize cur2[i * 2 + 1] = z1 at *
      clear hcl hg2 hb2 hds2 hcr2 hB2 hfin hcr4 Hk Hs2 Hrr
      go_wp2_with fail
      go_roundw
      case rel => exact ⟨i + 1, j + 1, by omega, by omega, by go_num, by go_num, Hfin.out, Hcr4.out⟩
      case measure => simp [intOf]; omega
    · rw [hrr] at hcl
      clear hrr
      go_wp2_with fail
      refine hcl.mono ?_
      rintro e w2 ⟨rfl, hg2⟩
      have hb2 := hg2.below
      have hds2 := Hs2.out w2 (Hds3.out.alloc hb2) Hrr.out
      have hcr2 := Hcr3.out.block (hb2.block q Hcr3.out.lt)
      have Hds2 := Lib.hid hds2; have Hcr2 := Lib.hid hcr2
      clear hcl hg2 hb2 hds2 hcr2 Hk Hs2 Hrr
      go_wp2_with fail
      go_roundw
      case rel => exact ⟨i, j + 1, by omega, by omega, rfl, by go_num, Hds2.out, Hcr2.out⟩
      case measure => simp [intOf]; omega
set_option maxRecDepth 100000 in
set_option maxHeartbeats 4000000 in
theorem delF3_any (A : Option Addr) (l : List (Int × Int)) (c q base : Nat) (a b : Int) (v : Value) (w : World) (hown : OwnP w base (.slice A l.length c) l) (hl : l.length ≤ 100000) (hc : cap3 w q a b v) (hne : ∀ k, (Value.slice A l.length c).ownBlock = some k → q ≠ k) :
    Calls Tryz.prog 62 #[.slice A l.length c, .func (.func 64) #[] #[.pointer (some ⟨q, 0, none⟩)]] w (RetIns base (.slice A l.length c) (l.filter fun x => !pr3 a b x) w) := by
  obtain ⟨A', c', e, hrp, hnil⟩ := OwnP.form hown
  injection e with e1 _ e3
  subst e1 e3
  have hidx := idxF3_any A l c q a b v w hrp hl hc
  have Hc := Lib.hid hc; have Hown := Lib.hid hown; have Hidx := Lib.hid hidx; have Hne := Lib.hid hne
  clear hc hown hidx hne hrp
  go_enter Tryz.func62, Tryz.ntmps62
  go_wp2_with fail
  refine Hidx.out.mono ?_
  rintro e w1 ⟨r, rfl, hr, hb1⟩
  rcases hr with ⟨rfl, hnone⟩ | ⟨k, hk, rfl, hpre, hyes⟩
  · have hfil : (l.filter fun x => !pr3 a b x) = l := List.filter_eq_self.2 fun x hx => by rw [hnone x hx]; rfl
    have Hfil := Lib.hid hfil; have Hb1 := Lib.hid hb1
    clear hfil hnone hb1
    go_wp2_with fail
    go_ret
    rw [Hfil.out]
    exact ⟨A, c, rfl, Hown.out.below Hb1.out, grownBy_of_below Hb1.out _⟩
  have hown := Hown.out
  rcases hown.2 with ⟨e, h0⟩ | ⟨g, cap, cur0, e, hbg, hg, hle, hm, hs, htake⟩
  · omega
  injection e with e1 _ e3
  subst e1 e3
  have hgw : g < w.heap.size := Blk.lt hg
  have hmax : maxLen = 9223372036854775807 := rfl
  have hcell : ∀ x, x < l.length * 2 → cur0[x]? = (flatP l)[x]? := fun x hx => by
    rw [← htake, List.getElem?_take_of_lt hx, Array.getElem?_toList]
  have hkb : ((k : Int) == -1) = false := by rw [beq_eq_false_iff_ne]; omega
  have hfk : (l.take (k + 1)).filter (fun x => !pr3 a b x) = l.take k := by
    rw [List.take_succ_eq_append_getElem hk, List.filter_append, List.filter_eq_self.2 (fun x hx => by rw [hpre x hx]; rfl)]
    simp [hyes]
  have hst : DelS w g c cur0 l (pr3 a b) k (k + 1) w1 := by
    refine ⟨⟨cur0, (hb1.block g hgw).trans hg, hs, fun x hx => ?_, fun _ _ => rfl⟩, by rw [hfk, List.length_take]; omega, grownBy_of_below hb1 _⟩
    rw [hfk, ← flatP_take l k (by omega), List.getElem?_take_of_lt hx]
    exact hcell x (by omega)
  have Hst := Lib.hid hst; have Hcell := Lib.hid hcell
  have hcq := Hc.out.block (hb1.block q Hc.out.lt)
  have hqg : q ≠ g := Hne.out g rfl
  have Hcq := Lib.hid hcq
  clear hown htake hst hcell hfk hpre hyes hg hcq hb1
  go_wp2_with fail
  go_loopw [5, 6] (fun t5 t6 wr => ∃ i j : Nat, i < j ∧ j ≤ l.length ∧ t5 = .int .i64 i ∧ t6 = .int .i64 j ∧ DelS w g c cur0 l (pr3 a b) i j wr ∧ cap3 wr q a b v) (fun _ t6 _ => l.length - (intOf t6).toNat)
  case atStart => exact ⟨k, k + 1, by omega, by omega, rfl, by go_num, Hst.out, Hcq.out⟩
  case round =>
    clear Hst Hcq hkb hk
    obtain ⟨i, j, hij, hjl, rfl, rfl, hds, hcr⟩ := hrel
    have Hds := Lib.hid hds; have Hcr := Lib.hid hcr
    obtain ⟨cur, hB, hcs, -, hrest⟩ := hds.blk
    by_cases hlt : j < l.length
    case neg =>
      have hlt' : ¬ (j : Int) < (l.length : Int) := by omega
      have hi0 : (0 : Int) ≤ (i : Int) := by omega
      have hin : (i : Int) ≤ (l.length : Int) := by omega
      have hic : (i : Int) ≤ (c : Int) := by omega
      have hne : ¬ c = i := by omega
      have hcl := run_clear2 wr 0 g (i * 2) (l.length - i) (c - i) (by omega) (fun x hx => by rw [hB.cell, Array.getElem?_eq_getElem (by omega)]; rfl) (fun x => hB.frozen x)
      obtain ⟨h1, h2, h3⟩ := hds.done (base := base) (by omega) hbg (by omega) hm (Builtin.zeroCells (Value.cells (.agg #[.int .i64 0, .int .i64 0])) (l.length - i)).toList
      obtain ⟨W', hW'⟩ : ∃ W', wr.setCells g (i * 2) (Builtin.zeroCells (Value.cells (.agg #[.int .i64 0, .int .i64 0])) (l.length - i)).toList = W' := ⟨_, rfl⟩
      rw [hW'] at hcl h2 h3
      have H1 := Lib.hid h1; have H2 := Lib.hid h2; have H3 := Lib.hid h3
      clear hds hcr hB hrest hW' h1 h2 h3 Hds hlt
      go_wp2_with fail
      go_ret
      exact ⟨some ⟨g, 0, none⟩, c, by rw [H1.out]; rfl, by rw [H1.out]; exact H2.out, H3.out⟩
    case pos =>
    have hlt' : (j : Int) < (l.length : Int) := by omega
    have hj0 : (0 : Int) ≤ (j : Int) := by omega
    have hi0 : (0 : Int) ≤ (i : Int) := by omega
    have hin : (i : Int) < (l.length : Int) := by omega
    have c0 : wr.cell? ⟨g, j * 2, none⟩ = some (.int .i64 l[j].1) := by
      rw [hB.cell, hrest _ (by omega), Hcell.out _ (by omega), (flatP_at l j hlt).1]; simp [List.getD, hlt]
    have c1 : wr.cell? ⟨g, j * 2 + 1, none⟩ = some (.int .i64 l[j].2) := by
      rw [hB.cell, hrest _ (by omega), Hcell.out _ (by omega), (flatP_at l j hlt).2]; simp [List.getD, hlt]
    have hcall := fun W (h : cap3 W q a b v) => dch3_any W q a b v h l[j].1 l[j].2
    have hk := fun W (h : DelS w g c cur0 l (pr3 a b) i j W) hp => h.keep hlt hij hle hp
    have hs2 := fun W (h : DelS w g c cur0 l (pr3 a b) i j W) hp => h.skip hlt hp
    rw [show pr3 a b l[j] = pr3 a b (l[j].1, l[j].2) from rfl] at hk hs2
    have Hcall := Lib.hid hcall; have Hk := Lib.hid hk; have Hs2 := Lib.hid hs2
    clear hds hcr hB hrest hcall hk hs2
    generalize l[j].1 = x at *
    generalize l[j].2 = y at *
    obtain ⟨r, hrr⟩ : ∃ r, pr3 a b (x, y) = r := ⟨_, rfl⟩
    have Hrr := Lib.hid hrr
    go_upto_region 8 with fail
    obtain ⟨W3, hW3, d0, d1, hb3, hlt3⟩ := boxed wr 54 (.int .i64 x) (.int .i64 y)
    rw [hW3]
    have hds3 := Hds.out.alloc hb3
    have hcr3 := Hcr.out.block (hb3.block q Hcr.out.lt)
    have hcl := Hcall.out W3 hcr3
    have Hds3 := Lib.hid hds3; have Hcr3 := Lib.hid hcr3
    clear hW3 hds3 hcr3 c0 c1 Hds Hcr Hcall
    cases r
    · rw [hrr] at hcl
      clear hrr
      go_wp2_with fail
      refine hcl.mono ?_
      rintro e w2 ⟨rfl, hg2⟩
      have hb2 := hg2.below
      have hds2 := Hds3.out.alloc hb2
      have e0 := (hb2.cell (lt_of_cell d0)).trans d0
      have e1 := (hb2.cell (lt_of_cell d1)).trans d1
      have hcr2 := Hcr3.out.block (hb2.block q Hcr3.out.lt)
      obtain ⟨cur2, hB2, hcs2, -, -⟩ := hds2.blk
      have k0 : w2.cell? ⟨g, i * 2, none⟩ = some cur2[i * 2] := by rw [hB2.cell, Array.getElem?_eq_getElem (by omega)]
      have k1 : w2.cell? ⟨g, i * 2 + 1, none⟩ = some cur2[i * 2 + 1] := by rw [hB2.cell, Array.getElem?_eq_getElem (by omega)]
      have f0 := hB2.frozen (i * 2)
      have f1 := hB2.frozen (i * 2 + 1)
      have hfin := Hk.out w2 hds2 Hrr.out
      have hcr4 := (hcr2.block (Below.heap_setCell w2 ⟨g, i * 2, none⟩ (.int .i64 x) q hqg)).block (Below.heap_setCell _ ⟨g, i * 2 + 1, none⟩ (.int .i64 y) q hqg)
      have Hfin := Lib.hid hfin; have Hcr4 := Lib.hid hcr4
      generalize cur2[i * 2] = z0 at *
      generalize cur2[i * 2 + 1] = z1 at *
      clear hcl hg2 hb2 hds2 hcr2 hB2 hfin hcr4 Hk Hs2 Hrr
      go_wp2_with fail
      go_roundw
      case rel => exact ⟨i + 1, j + 1, by omega, by omega, by go_num, by go_num, Hfin.out, Hcr4.out⟩
      case measure => simp [intOf]; omega
    · rw [hrr] at hcl
      clear hrr
      go_wp2_with fail
      refine hcl.mono ?_
      rintro e w2 ⟨rfl, hg2⟩
      have hb2 := hg2.below
      have hds2 := Hs2.out w2 (Hds3.out.alloc hb2) Hrr.out
      have hcr2 := Hcr3.out.block (hb2.block q Hcr3.out.lt)
      have Hds2 := Lib.hid hds2; have Hcr2 := Lib.hid hcr2
      clear hcl hg2 hb2 hds2 hcr2 Hk Hs2 Hrr
      go_wp2_with fail
      go_roundw
      case rel => exact ⟨i, j + 1, by omega, by omega, rfl, by go_num, Hds2.out, Hcr2.out⟩
      case measure => simp [intOf]; omega
end Go.Proofs.YtkflanjlnbdkmaaGreatDoor
