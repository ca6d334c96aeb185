/- graph.Components: the parts: the sort of the sets, the search for the next one, and its deletion. -/
import Derived.Test.YtkflanjlnbdkmaaDoorTj
import Derived.Test.YtkflanjlnbdkmaaDoorRev
import Derived.Test.YtkflanjlnbdkmaaDoorLb
import Derived.Test.YtkflanjlnbdkmaaDoorSrtu
import Derived.Test.YtkflanjlnbdkmaaDoorDelu
import Derived.Shelf.GgSortFunc.Compose
namespace Go.Proofs.YtkflanjlnbdkmaaDoor
open Go.ChangeShapes Go.WideShapes Go.ChangeAt Go.RowKit Go.Sort

/-- a set that is not empty -/
abbrev NzU := { x : Nat // x ≠ 0 ∧ x < 18446744073709551616 }
instance : Inhabited NzU := ⟨⟨1, by decide⟩⟩
def encS (x : NzU) : Value := .int .u64 (x.1 : Int)
def cmpS (x y : NzU) : Int := cmpI (Lib.ctz 64 x.1 : Nat) (Lib.ctz 64 y.1 : Nat)
theorem ltOf_cmpS (x y : NzU) : ltOf cmpS x y = decide (Lib.ctz 64 x.1 < Lib.ctz 64 y.1) := by
  unfold ltOf cmpS cmpI
  rw [Bool.eq_iff_iff, decide_eq_true_iff, decide_eq_true_iff]
  split
  · omega
  · split <;> omega
theorem swoS : SWO (ltOf cmpS) where
  irrefl x := by rw [ltOf_cmpS]; simp
  trans x y z h1 h2 := by rw [ltOf_cmpS, decide_eq_true_iff] at *; omega
  ntrans x y z h1 h2 := by rw [ltOf_cmpS, decide_eq_false_iff_not] at *; omega

set_option maxHeartbeats 400000 in
theorem comps1_any (x y : Nat) (hx : x < 18446744073709551616) (hx0 : x ≠ 0) (hy : y < 18446744073709551616) (hy0 : y ≠ 0) (w : World) (hT : Tab w) :
    Calls Tryd.prog 51 #[.int .u64 (x : Int), .int .u64 (y : Int)] w (Ret (.int .i64 (cmpI (Lib.ctz 64 x : Nat) (Lib.ctz 64 y : Nat))) w) := by
  have H1 := Lib.hid (tz_any x hx hx0 w hT)
  have H2 := Lib.hid (tz_any y hy hy0 w hT)
  clear hx hx0 hy hy0
  go_enter Tryd.func51, Tryd.ntmps51
  go_wp2_with fail
  refine H1.out.mono ?_
  rintro e w1 ⟨rfl, rfl⟩
  go_wp2_with fail
  refine H2.out.mono ?_
  rintro e w1 ⟨rfl, rfl⟩
  go_wp2_with fail
  refine (cmpc_any _ _ _).mono ?_
  rintro e w1 ⟨rfl, rfl⟩
  go_wp2_with fail
  go_ret
  exact ⟨rfl, rfl⟩

/-- the cells of a list of sets, from the block's start -/
def encU (x : Nat) : Value := .int .u64 (x : Int)
def HU (w : World) (g : Nat) (F : List Nat) : Prop := Holds encU w g 0 F.toArray
theorem HU.cell {w : World} {g : Nat} {F : List Nat} (h : HU w g F) {k : Nat} (hk : k < F.length) : w.cell? ⟨g, k, none⟩ = some (.int .u64 (F[k] : Nat)) := by
  have := (h k (by simpa using hk)).1
  rw [Nat.zero_add] at this
  rw [this]
  have e : F.toArray[k]! = F[k] := by rw [getElem!_pos _ k (by simpa using hk)]; simp
  rw [e]; rfl
theorem HU.block {w w' : World} {g : Nat} {F : List Nat} (h : HU w g F) (e : w'.heap[g]? = w.heap[g]?) : HU w' g F := fun j hj => by
  obtain ⟨h1, h2⟩ := h j hj
  exact ⟨(World.cell?_of_block (w := w) (a := ⟨g, 0 + j, none⟩) e).trans h1, (World.frozen?_of_block (w := w) (a := ⟨g, 0 + j, none⟩) e).trans h2⟩
theorem HU.pre {w : World} {g : Nat} {F F' : List Nat} (h : HU w g (F ++ F')) : HU w g F := fun j hj => by
  have hj' : j < F.length := by simpa using hj
  have := h j (by simp; omega)
  have e : (F ++ F').toArray[j]! = F.toArray[j]! := by
    rw [getElem!_pos _ j (by simp; omega), getElem!_pos _ j (by simpa using hj)]
    simp [List.getElem_append_left hj']
  rw [e] at this
  exact this
theorem OwnU.hu {w : World} {b g c : Nat} {F : List Nat} (h : OwnU w b (.slice (some ⟨g, 0, none⟩) F.length c) F) : HU w g F := by
  have h' := h
  obtain ⟨h1, h2⟩ := h
  rcases h2 with ⟨e, _⟩ | ⟨g', cap, cur, e, hg, hh, hn, hcap, hs, ht⟩
  · cases e
  · injection e with e1 e2 e3
    injection e1 with e1
    injection e1 with e1 _ _
    subst e1
    intro j hj
    have hj' : j < F.length := by simpa using hj
    refine ⟨?_, by simp [World.frozen?, hh]⟩
    have hc := World.ownsRow.cells (g := g) h' rfl j (encU F.toArray[j]!) (by
      rw [List.getElem?_map, List.getElem?_eq_getElem hj', getElem!_pos _ j hj]; simp [vU, encU])
    rw [show (⟨g, 0, none⟩ : Addr).add j = ⟨g, 0 + j, none⟩ by unfold Addr.add; split <;> simp_all] at hc
    exact hc
theorem OwnU.shape {w : World} {b : Nat} {v : Value} {F : List Nat} (h : OwnU w b v F) : (v = .slice none 0 0 ∧ F = []) ∨ ∃ g c, v = .slice (some ⟨g, 0, none⟩) F.length c ∧ b ≤ g ∧ g < w.heap.size ∧ F.length ≤ c ∧ c ≤ maxLen := by
  have hl := fun k hk => (OwnU.block h k hk).2
  obtain ⟨h1, h2⟩ := h
  rcases h2 with ⟨e, h0⟩ | ⟨g, cap, cur, e, hg, hh, hn, hcap, hs, ht⟩
  · exact .inl ⟨e, List.eq_nil_of_length_eq_zero h0⟩
  · exact .inr ⟨g, cap, e, hg, hl g (by rw [e]; rfl), hn, hcap⟩

/-- a row of another block -/
theorem putRow_grown {α : Type} [Inhabited α] (enc : α → Value) (w : World) (g off q : Nat) (d : Array α) : w.grownBy (putRow enc (Sort.ahead w q) g off d) (some g) :=
  ⟨rfl, rfl, rfl, Nat.le_of_eq (by simp [Sort.ahead]), fun k hk hne => by
    unfold putRow mapBlock
    simp only [Array.getElem?_modify, if_neg (fun e : g = k => hne (congrArg some e.symm))]
    rfl⟩
theorem sortedS {w : World} {g n : Nat} {d : Array NzU} {os : Array Obj} : w.grownBy (sortWorld encS w g 0 n d os) (some g) := by
  have h := putRow_grown encS w g 0 n d
  unfold sortWorld
  refine ⟨h.os, h.tape, h.output, Nat.le_trans h.size (by simp [grow]), fun k hk hne => ?_⟩
  rw [heap_grow_old _ os (Nat.lt_of_lt_of_le hk h.size)]
  exact h.block k hk hne

set_option maxRecDepth 100000 in
/-- the library's sort of the sets -/
theorem sortU_any {g c : Nat} {F : List Nat} {w : World} (hH : HU w g F) (hF : ∀ f ∈ F, f ≠ 0 ∧ f < 18446744073709551616) (hl : F.length ≤ 1000) (hg : g < w.heap.size) (hT : Tab w) (hne : 0 ≠ g) :
    Calls Tryd.prog 50 #[.slice (some ⟨g, 0, none⟩) F.length c, .func (.func 51) #[] #[]] w (fun e w' =>
      e = .returned (.tuple #[]) ∧ ∃ F' : List Nat, F'.Perm F ∧ (F'.Pairwise fun x y => Lib.ctz 64 x ≤ Lib.ctz 64 y) ∧ HU w' g F' ∧ w.grownBy w' (some g)) := by
  obtain ⟨L, hL⟩ : ∃ L : List NzU, L.map (·.1) = F := ⟨F.attach.map fun x => ⟨x.1, hF x.1 x.2⟩, by simp⟩
  have hlen : L.length = F.length := by rw [← hL, List.length_map]
  have hHS : Holds encS w g 0 L.toArray := fun j hj => by
    have hj' : j < L.length := by simpa using hj
    have h := hH j (by simp; omega)
    have e : encU F.toArray[j]! = encS L.toArray[j]! := by
      rw [getElem!_pos _ j (by simp; omega), getElem!_pos _ j hj]
      simp [encU, encS, ← hL]
    rw [e] at h
    exact h
  have eg : ∀ args w, (callFunc 51 args).run Tryd.prog w = .ok (.enter 51 args) w := enters_of Tryd.func51 (by kernel_rfl) rfl
  have hcmp : CmpLays1 Tryd.prog 51 #[] encS cmpS g 0 L.toArray.size w := fun m os dk _ x y => by
    have hTw : Tab (sortWorld encS w g 0 m dk os) := fun j hj => by
      have hb := lt_of_cell (hT j hj)
      rw [← hT j hj]
      exact World.cell?_of_block (w := w) (sortedS.block _ hb (fun e => hne (by injection e)))
    refine (comps1_any x.1 y.1 x.2.2 x.2.1 y.2.2 y.2.1 _ hTw).mono fun e w' h => ?_
    obtain ⟨rfl, rfl⟩ := h
    exact ⟨rfl, 0, #[], by rw [grow_empty]; rfl⟩
  have h := Any.slices_SortFunc sortU encS (fun _ => rfl) cmpS swoS 51 #[] g 0 c L.toArray w eg hcmp hHS hg (by simp; omega)
  rw [List.size_toArray, hlen] at h
  refine h.mono ?_
  rintro e w' ⟨rfl, d', n, os, ⟨hs, _, hp⟩, hso, rfl⟩
  have hs' : d'.size = F.length := by rw [hs, List.size_toArray, hlen]
  have hpp : d'.toList.Perm L := by
    have e1 : d'.extract 0 F.length = d' := by rw [← hs']; simp
    have e2 : L.toArray.extract 0 F.length = L.toArray := by rw [← hlen]; simp
    rw [e1, e2] at hp
    exact hp
  refine ⟨rfl, d'.toList.map (·.1), by rw [← hL]; exact hpp.map _, ?_, ?_, sortedS⟩
  · rw [List.pairwise_map, List.pairwise_iff_getElem]
    intro i j hi hj hij
    have h1 := hso i j (Nat.zero_le _) hij (by simp at hj; omega)
    rw [ltOf_cmpS, decide_eq_false_iff_not] at h1
    rw [getElem!_pos _ i (by simpa using hi), getElem!_pos _ j (by simpa using hj)] at h1
    simp only [Array.getElem_toList]
    omega
  · have hH' := holds_sortWorld encS w g 0 n L.toArray d' os hg hHS (by rw [List.size_toArray]; omega)
    intro j hj
    have hj' : j < d'.size := by simpa using hj
    have h := hH' j hj'
    have e : encU (d'.toList.map (·.1)).toArray[j]! = encS d'[j]! := by
      rw [getElem!_pos _ j (by simpa using hj), getElem!_pos _ j hj']
      simp [encU, encS]
    rw [e]
    exact h
theorem sortU_none (A : Option Addr) (c : Nat) (w : World) :
    Calls Tryd.prog 50 #[.slice A 0 c, .func (.func 51) #[] #[]] w (Ret (.tuple #[]) w) :=
  (AnyF.slices_SortFunc_none { sortU with } A c (.func (.func 51) #[] #[]) w).mono fun _ _ h => ⟨h.1, h.2.symm⟩

/-- the library's deletion of one set -/
theorem delU_any {g c k : Nat} {F : List Nat} {w : World} (hH : HU w g F) (hc : F.length ≤ c) (hm : c ≤ maxLen) (hk : k < F.length) :
    Calls Tryd.prog 59 #[.slice (some ⟨g, 0, none⟩) F.length c, .int .i64 k, .int .i64 ((k : Int) + 1)] w (fun e w' =>
      e = .returned (.slice (some ⟨g, 0, none⟩) (F.length - 1) c) ∧ HU w' g (F.eraseIdx k) ∧ w.grownBy w' (some g)) := by
  obtain ⟨i0, hi, hz0, hz1, hz2⟩ := info_parts info_u64
  have h := AnyE.slices_Delete delU encU (fun _ => rfl) 0 Tryd.zeroValue70 i0 hi hz1 g 0 c k (k + 1) F.toArray w hH (by simpa using hc) (by unfold maxLen at hm; omega) (by omega) (by simp; omega)
  rw [List.size_toArray] at h
  refine h.mono ?_
  rintro e w' ⟨rfl, q, rfl⟩
  refine ⟨by rw [show k + 1 - k = 1 by omega], ?_, putRow_grown encU w g 0 q _⟩
  have e : (F.toArray.toList.take k ++ F.toArray.toList.drop (k + 1) ++ List.replicate (k + 1 - k) 0) = F.eraseIdx k ++ List.replicate (k + 1 - k) 0 := by
    rw [List.eraseIdx_eq_take_drop_succ]
  rw [e]
  have hlen : (F.eraseIdx k).length = F.length - 1 := by rw [List.length_eraseIdx, if_pos hk]
  have hpr : HU (putRow encU (Sort.ahead w q) g 0 (F.eraseIdx k ++ List.replicate (k + 1 - k) 0).toArray) g (F.eraseIdx k ++ List.replicate (k + 1 - k) 0) :=
    holds_putRow encU (Sort.ahead w q) g 0 F.toArray _ (holds_ahead encU w q g 0 _ hH) (by simp [hlen]; omega)
  exact hpr.pre
end Go.Proofs.YtkflanjlnbdkmaaDoor
