/- slices.Grow, Concat, Sort, Compact at numbers. -/
import Derived.Test.YtkflanjlnbdkmaaGreatDoorDyX1
import Derived.Test.YtkflanjlnbdkmaaGreatDoorDyX2
import Derived.Test.YtkflanjlnbdkmaaGreatDoorSrti
import Derived.Test.YtkflanjlnbdkmaaGreatDoorCmpi
namespace Go.Proofs.YtkflanjlnbdkmaaGreatDoor
open Go.ChangeShapes Go.WideShapes Go.ChangeAt Go.RowKit

set_option maxRecDepth 100000 in
set_option maxHeartbeats 2000000 in
/-- slices.Grow of nil -/
theorem growI_any (n : Nat) (hn : 0 < n) (hn2 : n ≤ 1000000) (w : World) :
    Calls Tryz.prog 65 #[.slice none 0 0, .int .i64 (n : Int)] w (fun e w' => ∃ g cap, e = .returned (.slice (some ⟨g, 0, none⟩) 0 cap) ∧ OwnI w' w.heap.size (.slice (some ⟨g, 0, none⟩) 0 cap) [] ∧ Below w.heap.size w w') := by
  obtain ⟨i0, hi, hz0, hz1, hz2⟩ := info_parts info_int
  have hint : Tryz.prog.underlying 3 = some (.int .i64) := by kernel_rfl
  have hge := grownCap_ge w n 0 3
  have hmax : maxLen = 9223372036854775807 := rfl
  have hcm : grownCap w n 0 3 ≤ maxLen := grownCap_le_maxLen w n 0 3 (by omega)
  have hrun : ∀ ty, (Builtin.append_ #[25, 3] ty #[.slice none 0 0, .int .i64 (n : Int)]).run Tryz.prog w = .ok (.slice (some ⟨w.heap.size, 0, none⟩) n (grownCap w n 0 3)) (w.drew.alloc (.cells (Builtin.zeroCells (Value.cells (.int .i64 0)) n ++ Builtin.zeroCells (Value.cells (.int .i64 0)) (grownCap w n 0 3 - n)) 3)) := fun ty =>
    Lib.run_append_nil_zeros w 25 3 ty 3 i0 (.int .i64 0) .i64 .i64 Tryz.underlying25 hint hi hz0 n hn (by omega) (by omega) (by rw [hz2]; omega)
  obtain ⟨G, hG⟩ : ∃ G, grownCap w n 0 3 = G := ⟨_, rfl⟩
  rw [hG] at hrun hge hcm
  have hown : OwnI (w.drew.alloc (.cells (Builtin.zeroCells (Value.cells (.int .i64 0)) n ++ Builtin.zeroCells (Value.cells (.int .i64 0)) (G - n)) 3)) w.heap.size (.slice (some ⟨w.heap.size, 0, none⟩) 0 G) [] :=
    World.ownsRow_made w.drew _ G (Nat.le_refl _) hcm (by simp only [Array.size_append, size_zeroCells]; simp [Value.cells]; omega)
  have hb : Below w.heap.size w (w.drew.alloc (.cells (Builtin.zeroCells (Value.cells (.int .i64 0)) n ++ Builtin.zeroCells (Value.cells (.int .i64 0)) (G - n)) 3)) := ((Below.refl _ _).drew).alloc (Nat.le_refl _) _
  obtain ⟨W1, hW1⟩ : ∃ W1, w.drew.alloc (.cells (Builtin.zeroCells (Value.cells (.int .i64 0)) n ++ Builtin.zeroCells (Value.cells (.int .i64 0)) (G - n)) 3) = W1 := ⟨_, rfl⟩
  rw [hW1] at hrun hown hb
  have Hrun := Lib.hid hrun; have Hown := Lib.hid hown; have Hb := Lib.hid hb
  have hn0 : ¬ (n : Int) < 0 := by omega
  have hn1 : (0 : Int) < (n : Int) := by omega
  clear hW1 hrun hown hb hG
  go_enter Tryz.func65, Tryz.ntmps65
  go_wp2_with (at_builtin; refine Lib.wpList_append_run _ rfl _ _ _ _ rfl _ _ rfl rfl _ _ (Hrun.out _) ?_)
  go_ret
  exact ⟨_, _, rfl, Hown.out, Hb.out⟩
set_option maxRecDepth 100000 in
set_option maxHeartbeats 4000000 in
/-- slices.Concat of two slices -/
theorem concat2_any (g : Nat) (B1 B2 : Option Addr) (l1 l2 : List Int) (d1 d2 : Nat) (w : World) (hg : Blk w g 25 #[.slice B1 l1.length d1, .slice B2 l2.length d2]) (h1 : RI w B1 l1) (h2 : RI w B2 l2) (hn1 : B1 = none → l1 = [] ∧ d1 = 0) (hn2 : B2 = none → l2 = [] ∧ d2 = 0) (hl1 : l1.length ≤ 100000) (hl2 : l2.length ≤ 100000) (hp : 0 < l2.length) :
    Calls Tryz.prog 44 #[.slice (some ⟨g, 0, none⟩) 2 2] w (RetI (l1 ++ l2) w) := by
  have c0 : w.cell? ⟨g, 0, none⟩ = some (.slice B1 l1.length d1) := by rw [hg.cell]; rfl
  have c1 : w.cell? ⟨g, 1, none⟩ = some (.slice B2 l2.length d2) := by rw [hg.cell]; rfl
  have hgr := growI_any (l1.length + l2.length) (by omega) (by omega) w
  have Hgr := Lib.hid hgr
  clear hgr
  go_enter Tryz.func44, Tryz.ntmps44
  go_wp2_with fail
  go_loopw [3, 11] (fun s t wr => ∃ k : Nat, k ≤ 2 ∧ t = .int .i64 k ∧ s = .int .i64 (if k = 0 then 0 else if k = 1 then (l1.length : Int) else (l1.length : Int) + l2.length) ∧ wr = w) (fun _ t _ => 2 - (intOf t).toNat)
  case atStart => exact ⟨0, by omega, rfl, rfl, rfl⟩
  case round =>
    obtain ⟨k, hk, rfl, rfl, rfl⟩ := hrel
    have : k = 0 ∨ k = 1 ∨ k = 2 := by omega
    rcases this with rfl | rfl | rfl
    · have hs0 : ¬ (l1.length : Int) < 0 := by omega
      simp only [if_true]
      go_wp2_with fail
      go_roundw
      case rel => exact ⟨1, by omega, by go_num, by simp, trivial⟩
      case measure => simp [intOf]
    · have hs0 : ¬ (l1.length : Int) + (l2.length : Int) < 0 := by omega
      rw [if_neg (by omega), if_pos rfl]
      go_wp2_with fail
      go_roundw
      case rel => exact ⟨2, by omega, by go_num, by simp, trivial⟩
      case measure => simp [intOf]
    · rw [if_neg (by omega), if_neg (by omega)]
      have hgr := Hgr.out
      rw [show (((l1.length + l2.length : Nat) : Int)) = (l1.length : Int) + (l2.length : Int) by omega] at hgr
      clear Hgr
      go_wp2_with fail
      refine hgr.mono ?_
      rintro e w1 ⟨gO, cap, rfl, ho, hb1⟩
      have Ho := Lib.hid ho
      have hb1' := hb1
      clear hgr ho
      go_wp2_with fail
      obtain ⟨wo, hwo⟩ : ∃ wo, wo = wr := ⟨_, rfl⟩
      subst hwo
      go_loopw [6, 27] (fun v t w2 => ∃ k : Nat, k ≤ 2 ∧ t = .int .i64 k ∧ OwnI w2 wo.heap.size v (if k = 0 then [] else if k = 1 then l1 else l1 ++ l2) ∧ Below wo.heap.size wo w2) (fun _ t _ => 2 - (intOf t).toNat)
      case atStart => exact ⟨0, by omega, rfl, Ho.out, hb1'⟩
      case round =>
        clear Ho hb1 hb1'
        obtain ⟨k, hk, rfl, ho, hb2⟩ := hrel
        have e0 := (hb2.cell (lt_of_cell c0)).trans c0
        have e1 := (hb2.cell (lt_of_cell c1)).trans c1
        have hri1 := Lib.hid (h1.below hb2)
        have hri2 := Lib.hid (h2.below hb2)
        have hs2 := hb2.size
        have : k = 0 ∨ k = 1 ∨ k = 2 := by omega
        rcases this with rfl | rfl | rfl
        · rw [if_pos rfl] at ho
          obtain ⟨A3, c3, rfl, _, _⟩ := OwnI.form ho
          have Ho := Lib.hid ho
          clear ho
          go_wp2_with (at_builtin; refine wpList_appIs (by rfl) _ _ (by rfl) wr wo.heap.size _ [] B1 l1 d1 Ho.out hri1.out hn1 (by rfl) (by rfl) (by simp; omega) hs2 ?_; intro v' w3 ho3 hb3 _; rw [List.nil_append] at ho3; have Ho3 := Lib.hid ho3; have Hb3 := Lib.hid hb3; clear ho3 hb3)
          go_roundw
          case rel => exact ⟨1, by omega, by go_num, by rw [if_neg (by omega), if_pos rfl]; exact Ho3.out, hb2.trans Hb3.out⟩
          case measure => simp [intOf]
        · rw [if_neg (by omega), if_pos rfl] at ho
          obtain ⟨A3, c3, rfl, _, _⟩ := OwnI.form ho
          have Ho := Lib.hid ho
          clear ho
          go_wp2_with (at_builtin; refine wpList_appIs (by rfl) _ _ (by rfl) wr wo.heap.size _ l1 B2 l2 d2 Ho.out hri2.out hn2 (by rfl) (by rfl) (by omega) hs2 ?_; intro v' w3 ho3 hb3 _; have Ho3 := Lib.hid ho3; have Hb3 := Lib.hid hb3; clear ho3 hb3)
          go_roundw
          case rel => exact ⟨2, by omega, by go_num, by rw [if_neg (by omega), if_neg (by omega)]; exact Ho3.out, hb2.trans Hb3.out⟩
          case measure => simp [intOf]
        · rw [if_neg (by omega), if_neg (by omega)] at ho
          obtain ⟨A3, c3, rfl, _, _⟩ := OwnI.form ho
          have Ho := Lib.hid ho
          clear ho
          go_wp2_with fail
          go_ret
          exact RetI.mk Ho.out hb2
theorem own_of_cellsI {w : World} {base g cap : Nat} {cur : Array Value} {L : List Int} (hb : base ≤ g) (h : Blk w g 3 cur) (hle : L.length ≤ cap) (hm : cap ≤ maxLen) (hs : cur.size = cap) (hc : ∀ j, j < L.length → w.cell? ⟨g, j, none⟩ = (L.map (Value.int .i64))[j]?) : OwnI w base (.slice (some ⟨g, 0, none⟩) L.length cap) L := by
  refine ⟨by simp, .inr ⟨g, cap, cur, rfl, hb, h, hle, hm, by omega, ?_⟩⟩
  apply List.ext_getElem?
  intro j
  by_cases hj : j < L.length
  · rw [List.getElem?_take_of_lt (by omega), ← hc j hj, h.cell, Array.getElem?_toList]
  · rw [List.getElem?_eq_none (by rw [List.length_take]; omega), List.getElem?_eq_none (by rw [List.length_map]; omega)]
/-- the call returns nothing, and the slice holds the list l' -/
def RetIp (base : Nat) (A : Option Addr) (c : Nat) (l' : List Int) (w : World) : Ending → World → Prop := fun e w' => e = .returned (.tuple #[]) ∧ OwnI w' base (.slice A l'.length c) l' ∧ w.grownBy w' (Value.slice A l'.length c).ownBlock
def sortL (l : List Int) : List Int := l.mergeSort fun x y => decide (x ≤ y)
theorem sortL_perm (l : List Int) : (sortL l).Perm l := List.mergeSort_perm _ _
theorem sortL_length (l : List Int) : (sortL l).length = l.length := (sortL_perm l).length_eq
theorem sortL_sorted (l : List Int) : (sortL l).Pairwise (· ≤ ·) := by
  have := List.pairwise_mergeSort (le := fun x y : Int => decide (x ≤ y)) (fun a b c h1 h2 => by simp only [decide_eq_true_eq] at *; omega) (fun a b => by simp only [Bool.or_eq_true, decide_eq_true_eq]; omega) l
  exact this.imp fun h => by simpa using h
theorem ints_setCells {w : World} {base g cap : Nat} {cur : Array Value} {l l' vs : List Int} {q : Nat} (hb : base ≤ g) (h : Blk w g 3 cur) (hle : l.length ≤ cap) (hm : cap ≤ maxLen) (hs : cur.size = cap) (hl : vs.length = l.length) (hl' : l'.length ≤ l.length) (hpre : ∀ j, j < l'.length → vs[j]? = l'[j]?) :
    OwnI ((w.drewN q).setCells g 0 (vs.map (Value.int .i64))) base (.slice (some ⟨g, 0, none⟩) l'.length cap) l' ∧ w.grownBy ((w.drewN q).setCells g 0 (vs.map (Value.int .i64))) (some g) := by
  have hB : Blk (w.drewN q) g 3 cur := h
  obtain ⟨cur', hB', hs'⟩ := blk_setCells (vs.map (Value.int .i64)) 0 (w.drewN q) cur hB
  refine ⟨own_of_cellsI hb hB' (by omega) hm (by omega) (fun j hj => ?_), World.os_setCells _ _ _ _, tape_setCellsQ _ _ _ _, World.output_setCells _ _ _ _, by rw [size_setCellsQ]; exact Nat.le_refl _, fun k hk hne => World.heap_setCells_other (w.drewN q) g _ _ hk (fun e => hne (by rw [e]))⟩
  have := World.cell?_setCells_in g (vs.map (Value.int .i64)) 0 (w.drewN q) (fun j hj => by rw [List.length_map] at hj; rw [hB.cell, Array.getElem?_eq_getElem (by omega)]; rfl) j (by rw [List.length_map]; omega)
  rw [Nat.zero_add] at this
  rw [this, ← List.getElem?_eq_getElem, List.getElem?_map, List.getElem?_map, hpre j hj]
set_option maxRecDepth 100000 in
theorem sortI_any (A : Option Addr) (l : List Int) (c base : Nat) (w : World) (hown : OwnI w base (.slice A l.length c) l) (hl : l.length ≤ 100000) :
    Calls Tryz.prog 46 #[.slice A l.length c] w (RetIp base A c (sortL l) w) := by
  by_cases h0 : l.length = 0
  · have : l = [] := List.eq_nil_of_length_eq_zero h0
    subst this
    rw [show sortL ([] : List Int) = [] by simp [sortL]]
    refine (Any.slices_Sort_int_none sortI A c w).mono ?_
    rintro e w' ⟨rfl, rfl⟩
    exact ⟨rfl, hown, grownBy_refl _ _⟩
  · have hown' := hown
    rcases hown.2 with ⟨e, h⟩ | ⟨g, cap, cur, e, hbg, hg, hle, hm, hs, _⟩
    · omega
    · injection e with e1 _ e3
      subst e1 e3
      have hH : Go.Sort.Holds (Value.int .i64) w g 0 l.toArray := fun j hj => by
        have hj' : j < l.length := by simpa using hj
        have hc := OwnI.cellAt hown' hj'
        refine ⟨?_, Blk.frozen hg _⟩
        rw [Nat.zero_add, hc]
        simp [List.getD, hj']
      refine (Any.slices_Sort_int sortI g 0 c l w hH (Blk.lt hg) (by omega)).mono ?_
      rintro e w' ⟨rfl, q, os, rfl⟩
      have hlen := sortL_length l
      rw [show (l.mergeSort fun x y => decide (x ≤ y)) = sortL l from rfl, Go.Lib.putRow_eq_setCells _ w g 0 l.toArray (sortL l) q hH (by simp [hlen])]
      obtain ⟨h1, h2⟩ := ints_setCells (q := q) (l := l) (l' := sortL l) (vs := sortL l) hbg hg hle hm (by omega) hlen (by omega) (fun _ _ => rfl)
      have hg2 : Grew ((w.drewN q).setCells g 0 ((sortL l).map (Value.int .i64))) (Go.Sort.grow ((w.drewN q).setCells g 0 ((sortL l).map (Value.int .i64))) os) := ⟨0, os, rfl⟩
      exact ⟨rfl, h1.below hg2.below, grownBy_trans h2 (grownBy_of_below hg2.below _)⟩

/-- the call returns the slice cut to the list l', which lies in it -/
def RetIc (base : Nat) (A : Option Addr) (c : Nat) (l' : List Int) (w : World) : Ending → World → Prop := fun e w' => e = .returned (.slice A l'.length c) ∧ OwnI w' base (.slice A l'.length c) l' ∧ w.grownBy w' (Value.slice A l'.length c).ownBlock
theorem compact_nil : Go.Lib.compact ([] : List Int) = [] := by simp [Go.Lib.compact, Go.Lib.compactUpTo]
set_option maxRecDepth 100000 in
theorem compactI_any (A : Option Addr) (l : List Int) (c base : Nat) (w : World) (hown : OwnI w base (.slice A l.length c) l) (hl : l.length ≤ 100000) :
    Calls Tryz.prog 47 #[.slice A l.length c] w (RetIc base A c (Go.Lib.compact l) w) := by
  by_cases h0 : l.length = 0
  · have : l = [] := List.eq_nil_of_length_eq_zero h0
    subst this
    rw [compact_nil]
    refine (Any.slices_Compact_int_empty compI A c w).mono ?_
    rintro e w' ⟨rfl, rfl⟩
    exact ⟨rfl, hown, grownBy_refl _ _⟩
  · have hown' := hown
    rcases hown.2 with ⟨e, h⟩ | ⟨g, cap, cur, e, hbg, hg, hle, hm, hs, _⟩
    · omega
    · injection e with e1 _ e3
      subst e1 e3
      have hc : ∀ j, j < l.length → w.cell? ⟨g, 0 + j, none⟩ = some (.int .i64 (l.getD j 0)) := fun j hj => by rw [Nat.zero_add]; exact OwnI.cellAt hown' hj
      have hmax : maxLen = 9223372036854775807 := rfl
      have hlen := Go.Lib.compact_length_le l
      have h := Any.slices_Compact_int_cells compI g 0 l.length c l w (Nat.le_refl _) (by omega) hle hc (fun j _ => Blk.frozen hg _)
      rw [List.take_length] at h
      refine h.mono ?_
      rintro e w' ⟨rfl, q, rfl⟩
      obtain ⟨h1, h2⟩ := ints_setCells (q := q) (l := l) (l' := Go.Lib.compact l) (vs := Go.Lib.compact l ++ List.replicate (l.length - (Go.Lib.compact l).length) 0) hbg hg hle hm (by omega) (by rw [List.length_append, List.length_replicate]; omega) hlen (fun j hj => List.getElem?_append_left hj)
      exact ⟨rfl, h1, h2⟩
/-- what Compact leaves of a list in order -/
theorem compact_spec {d : Array Int} (hs : ∀ i j, i ≤ j → j < d.size → d[i]! ≤ d[j]!) : ∀ m, m ≤ d.size → (Go.Lib.compactUpTo d m).Pairwise (· < ·) ∧ ∀ x, x ∈ Go.Lib.compactUpTo d m ↔ ∃ j, j < m ∧ x = d[j]!
  | 0, _ => ⟨by simp [Go.Lib.compactUpTo], fun x => by simp [Go.Lib.compactUpTo]⟩
  | m + 1, hm => by
    obtain ⟨h1, h2⟩ := compact_spec hs m (by omega)
    rw [Go.Lib.compactUpTo_succ]
    cases hk : Go.Lib.keeps d m
    · have hk' : ¬ (m = 0 ∨ d[m]! ≠ d[m - 1]!) := by simpa [Go.Lib.keeps] using hk
      have hm0 : m ≠ 0 := fun e => hk' (.inl e)
      have he : d[m]! = d[m - 1]! := Classical.byContradiction fun e => hk' (.inr e)
      refine ⟨by simpa using h1, fun x => ?_⟩
      simp only [Bool.false_eq_true, if_false, List.append_nil]
      rw [h2]
      constructor
      · rintro ⟨j, hj, rfl⟩; exact ⟨j, by omega, rfl⟩
      · rintro ⟨j, hj, rfl⟩
        by_cases e : j = m
        · subst e; exact ⟨j - 1, by omega, he⟩
        · exact ⟨j, by omega, rfl⟩
    · have hk' : m = 0 ∨ d[m]! ≠ d[m - 1]! := by simpa [Go.Lib.keeps] using hk
      simp only [if_true]
      refine ⟨?_, fun x => ?_⟩
      · rw [List.pairwise_append]
        refine ⟨h1, by simp, fun x hx y hy => ?_⟩
        rw [List.mem_singleton] at hy
        subst hy
        obtain ⟨j, hj, rfl⟩ := (h2 x).1 hx
        have a1 := hs j (m - 1) (by omega) (by omega)
        have a2 := hs (m - 1) m (by omega) (by omega)
        rcases hk' with e | e <;> omega
      · rw [List.mem_append, h2, List.mem_singleton]
        constructor
        · rintro (⟨j, hj, rfl⟩ | rfl)
          · exact ⟨j, by omega, rfl⟩
          · exact ⟨m, by omega, rfl⟩
        · rintro ⟨j, hj, rfl⟩
          by_cases e : j = m
          · subst e; exact .inr rfl
          · exact .inl ⟨j, by omega, rfl⟩
theorem compact_sort {l : List Int} {m : Nat} {p : Nat → Bool} (h : ∀ x, x ∈ l ↔ ∃ j : Nat, j < m ∧ p j = true ∧ x = j) : Go.Lib.compact (sortL l) = nodesB m p := by
  have hs : ∀ i j, i ≤ j → j < (sortL l).toArray.size → (sortL l).toArray[i]! ≤ (sortL l).toArray[j]! := fun i j hij hj => by
    have hj' : j < (sortL l).length := by simpa using hj
    rw [getElem!_pos _ i (by simp; omega), getElem!_pos _ j (by simpa using hj')]
    simp only [List.getElem_toArray]
    by_cases e : i = j
    · subst e; exact Int.le_refl _
    · exact List.pairwise_iff_getElem.1 (sortL_sorted l) i j (by omega) hj' (by omega)
  obtain ⟨h1, h2⟩ := compact_spec hs (sortL l).length (by simp)
  refine sorted_ext _ _ h1 ?_ fun x => ?_
  · unfold nodesB
    rw [List.pairwise_map]
    exact ((List.pairwise_lt_range (n := m)).filter _).imp fun {a b} hab => by simpa using hab
  · show x ∈ Go.Lib.compactUpTo (sortL l).toArray (sortL l).length ↔ _
    rw [h2, mem_nodesB, ← h, ← (sortL_perm l).mem_iff]
    constructor
    · rintro ⟨j, hj, rfl⟩
      rw [getElem!_pos _ j (by simpa using hj)]
      simp
    · intro hx
      obtain ⟨j, hj, rfl⟩ := List.getElem_of_mem hx
      exact ⟨j, hj, by rw [getElem!_pos _ j (by simpa using hj)]; simp⟩
end Go.Proofs.YtkflanjlnbdkmaaGreatDoor
