/- search.finder: the block of the finder; the attackers' rows; what a call of the search leaves as it was; an append of a slice, with the word where the result lies. -/
import Derived.Test.YtncimnfhfomddaaDoorPl14
import Derived.Test.YtncimnfhfomddaaDoorGenM
namespace Go.Proofs.YtncimnfhfomddaaDoor
open Go.ChangeShapes Go.WideShapes Go.ChangeAt Go.RowKit

/-- 40 cells with labels -/
def dC (D : Nat → Nat) : Array Value := ((List.range 40).map fun k => Value.int .i64 (D k : Int)).toArray
theorem dC_size (D : Nat → Nat) : (dC D).size = 40 := by simp [dC]
theorem dC_at {D : Nat → Nat} {k : Nat} (hk : k < 40) : (dC D)[k]? = some (.int .i64 (D k : Int)) := by simp [dC, hk]
theorem dC_none {D : Nat → Nat} {k : Nat} (hk : 40 ≤ k) : (dC D)[k]? = none := by simp [dC, hk]
theorem dC_set (D : Nat → Nat) (k x : Nat) : (dC D).setIfInBounds k (.int .i64 (x : Int)) = dC (updN D k x) := by
  apply Array.ext_getElem?
  intro i
  rw [Array.getElem?_setIfInBounds]
  rcases Nat.lt_or_ge i 40 with hi | hi
  · rw [dC_at hi]
    by_cases e : k = i
    · subst e; rw [if_pos rfl, if_pos (by rw [dC_size]; exact hi), dC_at hi]; unfold updN; rw [if_pos rfl]
    · rw [if_neg e, dC_at hi]; unfold updN; rw [if_neg (Ne.symm e)]
  · rw [dC_none hi]
    by_cases e : k = i
    · subst e; rw [if_pos rfl, if_neg (by rw [dC_size]; omega), dC_none hi]
    · rw [if_neg e, dC_none hi]
theorem dC_cell (D : Nat → Nat) : ∀ v ∈ (dC D).toList, v.oneCell' = true := by
  intro v hv
  unfold dC at hv
  rw [List.mem_map] at hv
  obtain ⟨k, _, rfl⟩ := hv
  rfl
theorem dC_inj {D E : Nat → Nat} (h : dC D = dC E) {k : Nat} (hk : k < 40) : D k = E k := by
  have h1 := dC_at (D := D) hk
  rw [h, dC_at hk] at h1
  injection h1 with h1
  injection h1 with _ h1
  omega

/-- the cells of a finder -/
def finC (n : Nat) (vat : Value) (D : Nat → Nat) (v : Value) (full : Bool) : Array Value := #[.int .i64 (n : Int), vat] ++ dC D ++ #[v, .bool full]
section
variable {n : Nat} {vat v : Value} {D : Nat → Nat} {full : Bool}
theorem finC_size : (finC n vat D v full).size = 44 := by simp [finC, dC_size]
theorem finC_0 : (finC n vat D v full)[0]? = some (.int .i64 (n : Int)) := by simp [finC, dC_size]
theorem finC_1 : (finC n vat D v full)[1]? = some vat := by simp [finC, dC_size]
theorem finC_at {k : Nat} (hk : k < 40) : (finC n vat D v full)[2 + k]? = some (.int .i64 (D k : Int)) := by
  simp [finC, Array.getElem?_append, dC_size]
  rw [if_pos (by omega)]
  have := dC_at (D := D) hk
  simpa using this
theorem finC_42 : (finC n vat D v full)[42]? = some v := by simp [finC, dC_size]
theorem finC_43 : (finC n vat D v full)[43]? = some (.bool full) := by simp [finC, dC_size]
theorem finC_list : (finC n vat D v full).toList = [.int .i64 (n : Int), vat] ++ (dC D).toList ++ [v, .bool full] := by simp [finC]
theorem finC_put (k x : Nat) (hk : k < 40) : (finC n vat D v full).setIfInBounds (2 + k) (.int .i64 (x : Int)) = finC n vat (updN D k x) v full := by
  apply Array.ext'
  rw [Array.toList_setIfInBounds, finC_list, finC_list, ← dC_set, Array.toList_setIfInBounds]
  have hl : (dC D).toList.length = 40 := by simp [dC_size]
  rw [List.append_assoc, List.append_assoc, List.set_append_right _ _ (by simp), List.set_append_left _ _ (by rw [hl]; simp; omega)]
  simp
theorem finC_put42 (u : Value) : (finC n vat D v full).setIfInBounds 42 u = finC n vat D u full := by
  apply Array.ext'
  rw [Array.toList_setIfInBounds, finC_list, finC_list]
  have hl : ([.int .i64 (n : Int), vat] ++ (dC D).toList : List Value).length = 42 := by simp [dC_size]
  rw [List.set_append_right _ _ (by rw [hl]; omega), hl]
  rfl
theorem finC_put43 (b : Bool) : (finC n vat D v full).setIfInBounds 43 (.bool b) = finC n vat D v b := by
  apply Array.ext'
  rw [Array.toList_setIfInBounds, finC_list, finC_list]
  have hl : ([.int .i64 (n : Int), vat] ++ (dC D).toList : List Value).length = 42 := by simp [dC_size]
  rw [List.set_append_right _ _ (by rw [hl]; omega), hl]
  rfl
theorem finC_put1 (u : Value) : (finC n vat D v full).setIfInBounds 1 u = finC n u D v full := by
  apply Array.ext'
  rw [Array.toList_setIfInBounds, finC_list, finC_list]
  rfl
theorem finC_whole (E : Nat → Nat) : ((finC n vat D v full).toList.take (2 + 0) ++ (dC E).toList ++ (finC n vat D v full).toList.drop (2 + 0 + (dC E).toList.length)).toArray = finC n vat E v full := by
  have hl : (dC D).toList.length = 40 := by simp [dC_size]
  have hl2 : (dC E).toList.length = 40 := by simp [dC_size]
  apply Array.ext'
  rw [finC_list, finC_list, hl2]
  have e1 : ([.int .i64 (n : Int), vat] ++ (dC D).toList ++ [v, .bool full] : List Value).take 2 = [.int .i64 (n : Int), vat] := rfl
  have e2 : ([.int .i64 (n : Int), vat] ++ (dC D).toList ++ [v, .bool full] : List Value).drop (2 + 0 + 40) = [v, .bool full] := by
    rw [List.drop_append_of_le_length (by simp [hl])]
    rw [List.drop_eq_nil_of_le (by simp [hl])]; rfl
  rw [e1, e2]
end

section
variable {w w' : World} {f n : Nat} {vat v : Value} {D : Nat → Nat} {full : Bool}
end

/-- the attackers' lists: rows below B, none of them in block f -/
def AttOk (w : World) (f B : Nat) (A : Option Addr) (ls : List (List Int)) : Prop :=
  ∀ k (hk : k < ls.length), ∃ b o A' c', A = some ⟨b, o, none⟩ ∧ b ≠ f ∧ b < B ∧ w.cell? ⟨b, o + k, none⟩ = some (.slice A' ls[k].length c') ∧
    ∀ j (hj : j < ls[k].length), ∃ b' o', A' = some ⟨b', o', none⟩ ∧ b' ≠ f ∧ b' < B ∧ w.cell? ⟨b', o' + j, none⟩ = some (.int .i64 ls[k][j])
theorem near_cell {f B : Nat} {w w' : World} (h : Near f B w w') {b o : Nat} (hb : b < B) (hf : b ≠ f) : w'.cell? ⟨b, o, none⟩ = w.cell? ⟨b, o, none⟩ := by
  unfold World.cell?
  rw [h.block b hb hf]
theorem AttOk.near {w w' : World} {f B : Nat} {A : Option Addr} {ls : List (List Int)} (h : AttOk w f B A ls) (hn : Near f B w w') : AttOk w' f B A ls := fun k hk => by
  obtain ⟨b, o, A', c', hA, hf, hB, hc, hj⟩ := h k hk
  refine ⟨b, o, A', c', hA, hf, hB, by rw [near_cell hn hB hf]; exact hc, fun j hjl => ?_⟩
  obtain ⟨b', o', hA', hf', hB', hc'⟩ := hj j hjl
  exact ⟨b', o', hA', hf', hB', by rw [near_cell hn hB' hf']; exact hc'⟩
theorem AttOk.at_ {w : World} {f B : Nat} {A : Option Addr} {ls : List (List Int)} (h : AttOk w f B A ls) {k : Nat} (hk : k < ls.length) : ∃ b o A' c', A = some ⟨b, o, none⟩ ∧ w.cell? ⟨b, o + k, none⟩ = some (.slice A' ls[k].length c') ∧ RI w A' ls[k] := by
  obtain ⟨b, o, A', c', hA, _, _, hc, hj⟩ := h k hk
  refine ⟨b, o, A', c', hA, hc, fun j hjl => ?_⟩
  obtain ⟨b', o', hA', _, _, hc'⟩ := hj j hjl
  exact ⟨b', o', hA', by rw [hc']; simp [List.getD, hjl]⟩

/-- what a call leaves as it was: all but block f, the row v and new blocks -/
structure FindFr (f : Nat) (v : Value) (w w' : World) : Prop where
  os : w'.os = w.os
  tape : w'.tape = w.tape
  output : w'.output = w.output
  size : w.heap.size ≤ w'.heap.size
  block : ∀ k, k < w.heap.size → k ≠ f → some k ≠ v.ownBlock → w'.heap[k]? = w.heap[k]?
/-- v' lies where v lay, or in a block that was new behind w -/
def Led (w : World) (v v' : Value) : Prop := v'.ownBlock = v.ownBlock ∨ ∀ k, v'.ownBlock = some k → w.heap.size ≤ k
theorem Led.refl (w : World) (v : Value) : Led w v v := .inl rfl
theorem FindFr.refl (f : Nat) (v : Value) (w : World) : FindFr f v w w := ⟨rfl, rfl, rfl, Nat.le_refl _, fun _ _ _ _ => rfl⟩
theorem FindFr.trans {f : Nat} {v v' : Value} {a b c : World} (h : FindFr f v a b) (hl : Led a v v') (k : FindFr f v' b c) : FindFr f v a c :=
  ⟨k.os.trans h.os, k.tape.trans h.tape, k.output.trans h.output, Nat.le_trans h.size k.size, fun i hi hf hv => (k.block i (Nat.lt_of_lt_of_le hi h.size) hf (fun e => by
    rcases hl with hl | hl
    · exact hv (e.trans hl)
    · have := hl i e.symm; omega)).trans (h.block i hi hf hv)⟩
theorem Led.trans {a b : World} {v v' v'' : Value} (h : Led a v v') (hs : a.heap.size ≤ b.heap.size) (k : Led b v' v'') : Led a v v'' := by
  rcases k with k | k
  · rcases h with h | h
    · exact .inl (k.trans h)
    · exact .inr fun j hj => h j (by rw [← k]; exact hj)
  · exact .inr fun j hj => Nat.le_trans hs (k j hj)
theorem FindFr.of_below {f : Nat} {v : Value} {a b : World} (h : Below a.heap.size a b) : FindFr f v a b := ⟨h.os, h.tape, h.output, h.size, fun k hk _ _ => h.block k hk⟩
theorem FindFr.of_grown {f : Nat} {v : Value} {a b : World} (h : a.grownBy b (some f)) : FindFr f v a b := ⟨h.os, h.tape, h.output, h.size, fun k hk hf _ => h.block k hk (fun e => hf (by injection e))⟩
theorem FindFr.of_own {f : Nat} {v : Value} {a b : World} (h : a.grownBy b v.ownBlock) : FindFr f v a b := ⟨h.os, h.tape, h.output, h.size, fun k hk _ hv => h.block k hk hv⟩
theorem FindFr.blk {f g : Nat} {v : Value} {a b : World} {t : TypeId} {cs : Array Value} (h : FindFr f v a b) (k : Blk a g t cs) (hf : g ≠ f) (hv : some g ≠ v.ownBlock) : Blk b g t cs := (h.block g k.lt hf hv).trans k

set_option maxRecDepth 100000 in
/-- 'out = append(out, set)' for a slice of slices; the result lies where out lay, or in a new block -/
theorem wpList_appS2 {ops : Array Oper} {rest : List Oper} {o : Oper} {a : Act} {Q : Exit → Act → World → Prop} (hgd : o.guard = none) (s x : Operand)
    (ho : o.op = .call { callee := .builtin .append, args := #[s, x], argTypes := #[53, 53] })
    (X : World) (base : Nat) (v : Value) (xs : List Value) (A : Option Addr) (n c : Nat) (hown : OwnS X base v xs) (hs : a.eval s = v) {gx : Nat} (hx : a.eval x = .slice (some ⟨gx, 0, none⟩) 1 1) (hgx : gx = X.heap.size)
    (hlen : xs.length ≤ 1000000) (hbase : base ≤ X.heap.size)
    (h : ∀ v' w', OwnS w' base v' (xs ++ [.slice A n c]) → Below base X w' → X.grownBy w' v.ownBlock → Led X v v' → wpList Tryd.prog ops Q rest (a.put o.dst v') w') :
    wpList Tryd.prog ops Q (o :: rest) a (X.alloc (.cells #[.slice A n c] 25)) := by
  subst hgx
  obtain ⟨i0, hi, hz0, hz1, hz2⟩ := info_parts info_ints
  have hbX : ∀ w', (X.alloc (.cells #[.slice A n c] 25)).grownBy w' v.ownBlock → Below base X w' ∧ X.grownBy w' v.ownBlock := fun w' hg =>
    ⟨((Below.refl base X).alloc hbase _).grown hg (by simp; omega) (fun k hk => ((World.ownsRow.alloc hown (.cells #[.slice A n c] 25)).lt k hk).1),
     ⟨hg.os, hg.tape, hg.output, Nat.le_trans (by simp) hg.size, fun k hk hne => (hg.block k (by simp; omega) hne).trans (Below.heap_alloc _ _ _ hk)⟩⟩
  have hgrow : ∀ (B : Option Addr) (cap : Nat), v = .slice B xs.length cap → (B = none → xs.length = 0 ∧ cap = 0) → cap < xs.length + 1 → wpList Tryd.prog ops Q (o :: rest) a (X.alloc (.cells #[.slice A n c] 25)) := by
    intro B cap hv hB hfull
    have hB2 : ∀ b, B = some b → ∀ j u, xs[j]? = some u → (X.alloc (.cells #[.slice A n c] 25)).cell? (b.add j) = some u := by
      intro b hb j u hj
      rcases hown.2 with ⟨e, hn⟩ | ⟨g, cp, cur, e, hg, r⟩
      · rw [hv, hb] at e; cases e
      · have hc := (World.ownsRow.alloc hown (.cells #[.slice A n c] 25)).cells (g := g) (by rw [e]; rfl) j u hj
        rw [hv, hb] at e
        injection e with e _ _
        injection e with e
        rw [e]; exact hc
    refine wpList_append_grows (X.alloc (.cells #[.slice A n c] 25)) hgd s x 53 ho 25 i0 (.slice none 0 0) 1 24 Tryd.underlying53 hi hz0 hz1 hz2 rfl (by decide) B xs.length cap xs (by rw [hs, hv]) hB (by simp) hB2
      ⟨X.heap.size, 0, none⟩ 1 1 [.slice A n c] hx rfl (new_cell _ _ _) (by intro u hu; simp at hu; subst hu; rfl) hfull (by unfold maxLen; omega) (by omega) ?_
    intro v' w1 hown' hg
    have hsz : X.heap.size + 1 = (X.alloc (.cells #[.slice A n c] 25)).heap.size := by simp
    have hg2 : (X.alloc (.cells #[.slice A n c] 25)).grownBy w1 v.ownBlock := ⟨hg.os, hg.tape, hg.output, hg.size, fun k hk _ => hg.block k hk (by simp)⟩
    obtain ⟨h1, h2⟩ := hbX w1 hg2
    have ho' : OwnS w1 (X.alloc (.cells #[.slice A n c] 25)).heap.size v' (xs ++ [.slice A n c]) := by unfold OwnS; rw [List.length_append]; exact hown'
    exact h v' w1 (ownsRow_mono ho' (by omega)) h1 h2 (.inr fun k hk => by have := (World.ownsRow.lt ho' k hk).1; omega)
  rcases hown.2 with ⟨e, hn⟩ | ⟨g, cap, cur, e, hg, hh, hn, hcap, hrest⟩
  · exact hgrow none 0 (by rw [e, hn]) (fun _ => ⟨hn, rfl⟩) (by omega)
  · by_cases hroom : xs.length + 1 ≤ cap
    · subst e
      refine wpList_append_fits _ hgd s x 53 ho base 25 i0 1 Tryd.underlying53 hi hz1 g xs.length cap xs hs (World.ownsRow.alloc hown _) ⟨X.heap.size, 0, none⟩ 1 1 [.slice A n c] hx rfl (new_cell _ _ _)
        (by intro u hu; simp at hu; subst hu; rfl) hroom ?_
      intro w1 hown' hg'
      obtain ⟨h1, h2⟩ := hbX w1 hg'
      refine h _ w1 ?_ h1 h2 (.inl rfl)
      unfold OwnS; rw [List.length_append]; exact hown'
    · exact hgrow _ cap e (fun h => by cases h) (by omega)
end Go.Proofs.YtncimnfhfomddaaDoor
