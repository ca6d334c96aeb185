import Derived.Test.YtncimnfhfomddaaDoorBas
import Derived.Test.YtncimnfhfomddaaDoorBit
import Derived.Deep.RegionHeld3
import Derived.Test.YtncimnfhfomddaaDoorTxtX
/- admissible: attacked, whole, step, free, sound, mask, list. -/
namespace Go.Proofs.YtncimnfhfomddaaDoor
open Go.ChangeShapes Go.WideShapes Go.ChangeAt Go.RowKit

/-- what a call that makes memory leaves of two cells, and of all that was there at W0 -/
theorem keepC {W0 wa wb : World} {a b : Addr} {va vb : Value} (h1 : wa.cell? a = some va) (h2 : wa.cell? b = some vb) (h3 : Below W0.heap.size W0 wa) (hb : Below wa.heap.size wa wb) :
    wb.cell? a = some va ∧ wb.cell? b = some vb ∧ Below W0.heap.size W0 wb :=
  ⟨(hb.cell (lt_of_cell h1)).trans h1, (hb.cell (lt_of_cell h2)).trans h2, h3.trans (hb.mono h3.size)⟩

theorem endB {w W0 w' : World} (h : Below w.heap.size w W0) (k : Below W0.heap.size W0 w') : Below w.heap.size w w' := h.trans (k.mono h.size)
theorem leB {w W0 w' : World} (h : Below w.heap.size w W0) (k : Below W0.heap.size W0 w') : w.heap.size ≤ w'.heap.size := Nat.le_trans h.size k.size
theorem boxed (w : World) (t : TypeId) (x y : Value) : ∃ W0, w.alloc (.cells #[x, y] t) = W0 ∧ W0.cell? ⟨w.heap.size, 0, none⟩ = some x ∧ W0.cell? ⟨w.heap.size, 1, none⟩ = some y ∧ Below w.heap.size w W0 ∧ w.heap.size < W0.heap.size :=
  ⟨_, rfl, by rw [(Blk.new w t #[x, y]).cell]; rfl, by rw [(Blk.new w t #[x, y]).cell]; rfl, (Below.refl _ _).alloc (Nat.le_refl _) _, by simp⟩

end Go.Proofs.YtncimnfhfomddaaDoor

/- math/bits.TrailingZeros64; admissible: list, mask, Valid. -/
namespace Go.Proofs.YtncimnfhfomddaaDoor
open Go.ChangeShapes Go.WideShapes Go.ChangeAt Go.RowKit

/-- the library's table of 64 small numbers lies in its variable -/
def Tab (w : World) : Prop := ∀ j, j < 64 → w.cell? ⟨0, j, none⟩ = some (.int .u8 (Lib.deBruijn64tab.getD j 0))
theorem Tab.below {w w' : World} (h : Tab w) (hb : Below w.heap.size w w') : Tab w' := fun j hj => (hb.cell (p := ⟨0, j, none⟩) (lt_of_cell (h j hj))).trans (h j hj)
theorem Tab.grown {w w' : World} (h : Tab w) {p : Nat} (hb : w.grownBy w' (some p)) (hp : 0 < p) : Tab w' := fun j hj => hb.cell (h j hj) (by simp; omega)

theorem tz_key (x a : Nat) (hx : x < 18446744073709551616) (hx0 : x ≠ 0) (hlow : x &&& (18446744073709551616 - x) = a) :
    IntKind.u64.wrap (bits BinOp.and IntKind.u64 (x : Int) (IntKind.u64.wrap (-(x : Int))) * 285870213051353865) / 288230376151711744 = ((a * 285870213051353865 % 18446744073709551616 / 288230376151711744 : Nat) : Int) := by
  have e1 : IntKind.u64.wrap (-(x : Int)) = ((18446744073709551616 - x : Nat) : Int) := by rw [IntKind.wrap_u64]; omega
  rw [e1, u64_and_nat x _ hx (by omega), hlow, IntKind.wrap_u64]
  omega
set_option maxHeartbeats 1000000 in
theorem tz_core (x k idx : Nat) (w : World) (hx0 : ((x : Int) == 0) = false)
    (key : IntKind.u64.wrap (bits BinOp.and IntKind.u64 (x : Int) (IntKind.u64.wrap (-(x : Int))) * 285870213051353865) / 288230376151711744 = (idx : Int))
    (hi : idx < 64) (hk : k < 64) (hcell : w.cell? ⟨0, idx, none⟩ = some (.int .u8 k)) :
    Calls Tryd.prog 109 #[.int .u64 x] w (Ret (.int .i64 k) w) := by
  go_enter Tryd.func109, Tryd.ntmps109
  go_wp2_with (simp only [key])
  go_ret
  exact ⟨rfl, rfl⟩
theorem tz_any (x : Nat) (hx : x < 18446744073709551616) (hx0 : x ≠ 0) (w : World) (hT : Tab w) :
    Calls Tryd.prog 109 #[.int .u64 (x : Int)] w (Ret (.int .i64 (Lib.ctz 64 x : Nat)) w) := by
  obtain ⟨hlow, hk⟩ := Lib.lowest_bit 64 x hx0 hx
  obtain ⟨hi, htab⟩ := Lib.deBruijn64_at _ hk
  have hcell := hT _ hi
  rw [htab] at hcell
  exact tz_core x _ _ w (by simp; omega) (tz_key x _ hx hx0 hlow) hi hk hcell

end Go.Proofs.YtncimnfhfomddaaDoor

/- admissible: mask, Valid, free, sound, and the properties handed to holds. -/
namespace Go.Proofs.YtncimnfhfomddaaDoor
open Go.ChangeShapes Go.WideShapes Go.ChangeAt Go.RowKit

/-- a list as a set -/
def maskN (l : List Int) : Nat := l.foldl (fun z x => z ||| 1 <<< x.toNat) 0
theorem maskN_snoc (l : List Int) (x : Int) : maskN (l ++ [x]) = maskN l ||| 1 <<< x.toNat := by simp [maskN, List.foldl_append]
theorem testBit_maskN (l : List Int) (j : Nat) : (maskN l).testBit j = l.any (fun x => decide (x.toNat = j)) := by
  suffices h : ∀ z, (l.foldl (fun z (x : Int) => z ||| 1 <<< x.toNat) z).testBit j = (z.testBit j || l.any (fun x => decide (x.toNat = j))) by
    have := h 0; simpa [maskN] using this
  induction l with
  | nil => intro z; simp
  | cons p l ih => intro z; rw [List.foldl_cons, List.any_cons, ih, Nat.testBit_or, Nat.one_shiftLeft, Nat.testBit_two_pow, Bool.or_assoc]
theorem maskN_lt (l : List Int) (n : Nat) (h : ∀ x ∈ l, x.toNat < n) : maskN l < 2 ^ n := by
  apply Nat.lt_pow_two_of_testBit
  intro j hj
  rw [testBit_maskN, List.any_eq_false]
  intro x hx
  have := h x hx
  simp; omega

/-- the list is a set of nodes below N: strictly ascending -/
def setB (N : Int) (l : List Int) : Bool := decide (∀ k, k < l.length → (0 ≤ l.getD k 0 ∧ l.getD k 0 < N) ∧ (0 < k → l.getD (k - 1) 0 < l.getD k 0))
theorem setB_iff (N : Int) (l : List Int) : setB N l = true ↔ ∀ k, k < l.length → (0 ≤ l.getD k 0 ∧ l.getD k 0 < N) ∧ (0 < k → l.getD (k - 1) 0 < l.getD k 0) := by unfold setB; exact decide_eq_true_iff
theorem setB_miss {N : Int} {l : List Int} {k : Nat} (h : k < l.length) (hx : ¬ ((0 ≤ l.getD k 0 ∧ l.getD k 0 < N) ∧ (0 < k → l.getD (k - 1) 0 < l.getD k 0))) : setB N l = false := by
  cases hb : setB N l
  · rfl
  · rw [setB_iff] at hb; exact absurd (hb k h) hx

end Go.Proofs.YtncimnfhfomddaaDoor

/- admissible: free, sound, the other properties, holds, and what it is called for. -/
namespace Go.Proofs.YtncimnfhfomddaaDoor
open Go.ChangeShapes Go.WideShapes Go.ChangeAt Go.RowKit

def freeB (l : List (Int × Int)) (m : Nat) : Bool := (attN l m &&& m) == 0
def soundB (n : Nat) (l : List (Int × Int)) (m : Nat) : Bool := freeB l m && minusN m (stepN n l m) == 0
def complB (n : Nat) (l : List (Int × Int)) (m : Nat) : Bool := soundB n l m && stepN n l m == m
def stabB (n : Nat) (l : List (Int × Int)) (m : Nat) : Bool := freeB l m && (m ||| attN l m) == allN n
theorem natBeq (a b : Nat) : (((a : Int)) == ((b : Int))) = (a == b) := by rw [Bool.eq_iff_iff]; simp; omega
theorem natBeq0 (a : Nat) : (((a : Int)) == 0) = (a == 0) := natBeq a 0
theorem stepN_u64 {n : Nat} (_hn : n ≤ 40) (l : List (Int × Int)) (m : Nat) : stepN n l m < 2 ^ n := Nat.lt_of_le_of_lt (minusN_le _ _) (allN_lt n)

end Go.Proofs.YtncimnfhfomddaaDoor

/- admissible: holds at each property; ConflictFree, Admissible, IsComplete, IsStable, Defends, Step, Range. -/
namespace Go.Proofs.YtncimnfhfomddaaDoor
open Go.ChangeShapes Go.WideShapes Go.ChangeAt Go.RowKit

theorem setB_range {N : Int} {l : List Int} (h : setB N l = true) : ∀ x ∈ l, 0 ≤ x ∧ x < N := by
  intro x hx
  obtain ⟨k, hk, rfl⟩ := List.getElem_of_mem hx
  have := ((setB_iff _ _).1 h k hk).1
  simpa [List.getD, hk] using this
theorem setB_mask {n : Nat} (hn : n ≤ 40) {l : List Int} (h : setB n l = true) : (∀ x ∈ l, 0 ≤ x ∧ x < 64) ∧ maskN l < 2 ^ n := by
  refine ⟨fun x hx => ?_, maskN_lt l n fun x hx => ?_⟩ <;> have := setB_range h x hx <;> omega

end Go.Proofs.YtncimnfhfomddaaDoor

/- admissible: Defends, Step, Range. -/
namespace Go.Proofs.YtncimnfhfomddaaDoor
open Go.ChangeShapes Go.WideShapes Go.ChangeAt Go.RowKit

theorem nodesB_64 {n m : Nat} (h : m < 2 ^ n) (hn : n ≤ 64) : nodesB 64 m.testBit = nodesB n m.testBit :=
  nodesB_more hn fun i hi => Nat.testBit_lt_two_pow (Nat.lt_of_lt_of_le h (Nat.pow_le_pow_right (by omega) hi))

/-- what Step returns -/
def stepL (n : Nat) (l : List (Int × Int)) (x : List Int) : List Int := if setB n x then nodesB n (stepN n l (maskN x)).testBit else []
theorem RetI.nil {w w' : World} (h : Below w.heap.size w w') : RetI [] w (.returned (.slice none 0 0)) w' := ⟨none, 0, rfl, OwnI.nil _ _, RI.nil _ _, fun _ => rfl, h⟩

/-- what Range returns -/
def rangeL (n : Nat) (l : List (Int × Int)) (x : List Int) : List Int := if setB n x then nodesB n (maskN x ||| attN l (maskN x)).testBit else []

/-- what Defends returns -/
def defB (n : Nat) (l : List (Int × Int)) (x : List Int) (i : Int) : Bool := decide (0 ≤ i) && decide (i < n) && setB n x && (stepN n l (maskN x)).testBit i.toNat

end Go.Proofs.YtncimnfhfomddaaDoor

/- admissible: until, Grow, Shrink. -/
namespace Go.Proofs.YtncimnfhfomddaaDoor
open Go.ChangeShapes Go.WideShapes Go.ChangeAt Go.RowKit

/-- a captured graph: the block that holds it -/
def Cap (w : World) (p : Nat) (n : Nat) (A : Option Addr) (L c : Nat) : Prop := w.cell? ⟨p, 0, none⟩ = some (.int .i64 (n : Int)) ∧ w.cell? ⟨p, 1, none⟩ = some (.slice A L c)
theorem Cap.below {w w' : World} {p n : Nat} {A : Option Addr} {L c : Nat} (h : Cap w p n A L c) (hb : Below w.heap.size w w') : Cap w' p n A L c :=
  ⟨(hb.cell (lt_of_cell h.1)).trans h.1, (hb.cell (lt_of_cell h.2)).trans h.2⟩

end Go.Proofs.YtncimnfhfomddaaDoor

/- admissible: Grow, Shrink. -/
namespace Go.Proofs.YtncimnfhfomddaaDoor
open Go.ChangeShapes Go.WideShapes Go.ChangeAt Go.RowKit

/-- the call returns a new slice that holds the list, and an error number -/
def RetE (l : List Int) (er : Int) (w : World) : Ending → World → Prop := fun e w' => ∃ A c, e = .returned (.tuple #[.slice A l.length c, .int .i64 er]) ∧ OwnI w' w.heap.size (.slice A l.length c) l ∧ RI w' A l ∧ (A = none → l = []) ∧ Below w.heap.size w w'
theorem RetE.nil {w w' : World} (er : Int) (h : Below w.heap.size w w') : RetE [] er w (.returned (.tuple #[.slice none 0 0, .int .i64 er])) w' := ⟨none, 0, rfl, OwnI.nil _ _, RI.nil _ _, fun _ => rfl, h⟩

theorem sub_of_sound {n : Nat} {l : List (Int × Int)} {m : Nat} (hv : InR n l) (hm : m < 2 ^ n) (h : soundB n l m = true) : sub m (stepN n l m) := by
  intro j hj
  simp only [soundB, Bool.and_eq_true, beq_iff_eq] at h
  have h2 := h.2
  rcases Classical.em (has (stepN n l m) j) with hs | hs
  · exact hs
  · have : has (minusN m (stepN n l m)) j := (has_minusN (u64_of hv.1 hm) (u64_of hv.1 (stepN_lt n l m))).2 ⟨hj, hs⟩
    rw [h2] at this
    exact absurd this has_zero
theorem itN_lt {f : Nat → Nat} {B : Nat} (h : ∀ m, m < B → f m < B) : ∀ k m, m < B → itN f k m < B
  | 0, _, hm => hm
  | k + 1, m, hm => h _ (itN_lt h k m hm)
theorem growN_lt {n : Nat} {l : List (Int × Int)} {m : Nat} (hm : m < 2 ^ n) : growN n l m < 2 ^ n := itN_lt (fun _ _ => stepN_lt n l _) _ _ hm
theorem shrinkN_lt {n : Nat} {l : List (Int × Int)} {m : Nat} (hm : m < 2 ^ n) : shrinkN n l m < 2 ^ n := itN_lt (fun _ h => Nat.lt_of_le_of_lt Nat.and_le_left h) _ _ hm

def growL (n : Nat) (l : List (Int × Int)) (x : List Int) : List Int × Int :=
  if setB n x then if soundB n l (maskN x) then (nodesB n (growN n l (maskN x)).testBit, 0) else ([], 7) else ([], 1)
def shrinkL (n : Nat) (l : List (Int × Int)) (x : List Int) : List Int × Int :=
  if setB n x then if freeB l (maskN x) then (nodesB n (shrinkN n l (maskN x)).testBit, 0) else ([], 10) else ([], 1)

end Go.Proofs.YtncimnfhfomddaaDoor
