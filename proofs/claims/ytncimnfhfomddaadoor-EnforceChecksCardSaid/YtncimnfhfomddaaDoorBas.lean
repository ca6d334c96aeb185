import Derived.Test.YtncimnfhfomddaaDoorChecked
import Derived.WalkKit
import Derived.ProofKit
import Derived.Lib.Hide
import Derived.IntWalk
import Derived.Outline
import Derived.BigQuiet
import Derived.Deep.Draws
import Derived.Deep.QuietTactic
import Derived.OwnWalk
/- The words of this seat's proofs: slices that read as lists of numbers or pairs, and small facts on them. -/
namespace Go.Proofs.YtncimnfhfomddaaDoor
open Go.ChangeShapes Go.WideShapes Go.ChangeAt Go.RowKit

/-- the call returns v and leaves the world as it was -/
def Ret (v : Value) (w : World) : Ending → World → Prop := fun e w' => e = .returned v ∧ w = w'
/-- the call returns v; what was there is as it was -/
def RetB (v : Value) (w : World) : Ending → World → Prop := fun e w' => e = .returned v ∧ Below w.heap.size w w'

/-- the call returns v; the world has drawn some answers more -/
def RetQ (v : Value) (w : World) : Ending → World → Prop := fun e w' => e = .returned v ∧ ∃ n, w' = w.drewN n
theorem RetQ.below {v : Value} {w w' : World} {e : Ending} (h : RetQ v w e w') : RetB v w e w' := by
  obtain ⟨rfl, n, rfl⟩ := h
  exact ⟨rfl, ⟨rfl, rfl, rfl, Nat.le_refl _, fun _ _ => rfl⟩⟩
theorem Ret.quiet {v : Value} {w w' : World} {e : Ending} (h : Ret v w e w') : RetQ v w e w' := by
  obtain ⟨rfl, rfl⟩ := h
  exact ⟨rfl, 0, rfl⟩
theorem below_drewN {B : Nat} {a w : World} (h : Below B a w) (n : Nat) : Below B a (w.drewN n) := ⟨h.os, h.tape, h.output, h.size, h.block⟩

theorem rb {a b : Bool} (h : a = b) : Ending.returned (.bool a) = .returned (.bool b) := by rw [h]
theorem ri {k : IntKind} {a b : Int} (h : a = b) : Ending.returned (.int k a) = .returned (.int k b) := by rw [h]

/-- an address from which n cells on the list of numbers can be read -/
def RI (w : World) (A : Option Addr) (l : List Int) : Prop :=
  ∀ k, k < l.length → ∃ b o, A = some ⟨b, o, none⟩ ∧ w.cell? ⟨b, o + k, none⟩ = some (.int .i64 (l.getD k 0))

theorem lt_of_cell {w : World} {a : Addr} {v : Value} (h : w.cell? a = some v) : a.block < w.heap.size := World.block_lt_of_cell? w a h

theorem RI.below {w w' : World} {A : Option Addr} {l : List Int} (h : RI w A l) (hb : Below w.heap.size w w') : RI w' A l := by
  intro k hk
  obtain ⟨b, o, hA, hc⟩ := h k hk
  exact ⟨b, o, hA, (hb.cell (p := ⟨b, o + k, none⟩) (lt_of_cell hc)).trans hc⟩
theorem RI.nil (w : World) (A : Option Addr) : RI w A [] := fun k hk => absurd hk (by simp)
theorem RI.at_ {w : World} {A : Option Addr} {l : List Int} (h : RI w A l) {k : Nat} (hk : k < l.length) :
    ∃ b o, A = some ⟨b, o, none⟩ ∧ w.cell? ⟨b, o + k, none⟩ = some (.int .i64 l[k]) := by
  obtain ⟨b, o, hA, hc⟩ := h k hk
  exact ⟨b, o, hA, by rw [hc]; simp [List.getD, hk]⟩

/-- a number in a list, as a Bool that simp does not open -/
def inB (l : List Int) (x : Int) : Bool := l.contains x
theorem inB_iff (l : List Int) (x : Int) : inB l x = true ↔ x ∈ l := by simp [inB]
theorem inB_hit (l : List Int) (x : Int) (k : Nat) (h : k < l.length) (hx : (l[k] == x) = true) : inB l x = true := by
  rw [inB_iff]; have : l[k] = x := by simpa using hx
  subst this; simp
theorem inB_take_succ (l : List Int) (x : Int) (k : Nat) (h : k < l.length) (h0 : inB (l.take k) x = false) (hx : (l[k] == x) = false) : inB (l.take (k + 1)) x = false := by
  have e : l.take (k + 1) = l.take k ++ [l[k]] := List.take_succ_eq_append_getElem h
  have hne : l[k] ≠ x := by simpa using hx
  have h0' : x ∉ l.take k := fun hm => by rw [(inB_iff _ _).2 hm] at h0; cases h0
  cases hb : inB (l.take (k + 1)) x
  · rfl
  · rw [inB_iff, e] at hb
    rcases List.mem_append.1 hb with h | h
    · exact absurd h h0'
    · simp at h; exact absurd h.symm hne
theorem inB_all (l : List Int) (x : Int) (k : Nat) (hk : ¬ k < l.length) (h0 : inB (l.take k) x = false) : inB l x = false := by
  rwa [List.take_of_length_le (by omega)] at h0

end Go.Proofs.YtncimnfhfomddaaDoor

/- The functions of package keep that read numbers and compare lists: In, Inside, Ints, Mod, Raw, N, New. -/
namespace Go.Proofs.YtncimnfhfomddaaDoor
open Go.ChangeShapes Go.WideShapes Go.ChangeAt Go.RowKit

set_option maxHeartbeats 400000 in
theorem in_any (A : Option Addr) (l : List Int) (c : Nat) (x : Int) (w : World) (hn : l.length ≤ 4611686018427387904) (hr : RI w A l) :
    Calls Tryd.prog 73 #[.slice A l.length c, .int .i64 x] w (Ret (.bool (inB l x)) w) := by
  go_enter Tryd.func73, Tryd.ntmps73
  go_wp2
  go_loop [8] (fun i => ∃ k : Nat, k ≤ l.length ∧ i = .int .i64 k ∧ inB (l.take k) x = false) (fun i => l.length - (intOf i).toNat)
  case atStart => exact ⟨0, by omega, rfl, by simp [inB]⟩
  case round =>
    obtain ⟨k, hk, rfl, hno⟩ := hrel
    have Hno := Lib.hid hno; clear hno
    by_cases hlt : k < l.length
    · obtain ⟨b, o, rfl, hc⟩ := hr.at_ hlt
      go_wp2
      · go_ret
        exact ⟨rb (inB_hit l x k hlt (by assumption)).symm, rfl⟩
      · go_round
        case rel => exact ⟨k + 1, by omega, by go_num, inB_take_succ l x k hlt Hno.out (by assumption)⟩
        case measure => simp [intOf]; omega
    · go_wp2
      go_ret
      exact ⟨rb (inB_all l x k hlt Hno.out).symm, rfl⟩

/-- every element of a is one of b -/
def insideB (a b : List Int) : Bool := a.all (fun x => inB b x)
theorem insideB_take_succ {a b : List Int} {k : Nat} (h : k < a.length) (h0 : insideB (a.take k) b = true) (hx : inB b a[k] = true) : insideB (a.take (k + 1)) b = true := by
  unfold insideB at *
  rw [List.take_succ_eq_append_getElem h, List.all_append, h0]
  simp [hx]
theorem insideB_miss {a b : List Int} {k : Nat} (h : k < a.length) (hx : inB b a[k] = false) : insideB a b = false := by
  unfold insideB
  cases hb : a.all (fun x => inB b x)
  · rfl
  · rw [List.all_eq_true] at hb
    rw [hb _ (List.getElem_mem h)] at hx; cases hx
theorem insideB_all {a b : List Int} {k : Nat} (hk : ¬ k < a.length) (h0 : insideB (a.take k) b = true) : insideB a b = true := by
  rwa [List.take_of_length_le (by omega)] at h0

set_option maxHeartbeats 400000 in
theorem inside_any (A B : Option Addr) (a b : List Int) (ca cb : Nat) (w : World) (hn : a.length ≤ 4611686018427387904) (hm : b.length ≤ 4611686018427387904) (ha : RI w A a) (hb : RI w B b) :
    Calls Tryd.prog 33 #[.slice A a.length ca, .slice B b.length cb] w (Ret (.bool (insideB a b)) w) := by
  go_enter Tryd.func33, Tryd.ntmps33
  go_wp2
  go_loop [8] (fun i => ∃ k : Nat, k ≤ a.length ∧ i = .int .i64 k ∧ insideB (a.take k) b = true) (fun i => a.length - (intOf i).toNat)
  case atStart => exact ⟨0, by omega, rfl, by simp [insideB]⟩
  case round =>
    obtain ⟨k, hk, rfl, hno⟩ := hrel
    have Hno := Lib.hid hno; clear hno
    by_cases hlt : k < a.length
    · obtain ⟨bl, o, rfl, hc⟩ := ha.at_ hlt
      cases hx : inB b a[k]
      · have Hx := Lib.hid hx; clear hx
        go_wp2_with (go_at_call 73; refine (in_any _ _ _ _ _ hm hb).mono ?_; rintro e w' ⟨rfl, rfl⟩; rw [Hx.out])
        go_ret
        exact ⟨rb (insideB_miss hlt Hx.out).symm, rfl⟩
      · have Hx := Lib.hid hx; clear hx
        go_wp2_with (go_at_call 73; refine (in_any _ _ _ _ _ hm hb).mono ?_; rintro e w' ⟨rfl, rfl⟩; rw [Hx.out])
        go_round
        case rel => exact ⟨k + 1, by omega, by go_num, insideB_take_succ hlt Hno.out Hx.out⟩
        case measure => simp [intOf]; omega
    · go_wp2
      go_ret
      exact ⟨rb (insideB_all hlt Hno.out).symm, rfl⟩

/-- two lists are equal -/
def eqB (a b : List Int) : Bool := a == b
theorem eqB_iff (a b : List Int) : eqB a b = true ↔ a = b := by simp [eqB]
theorem eqB_len {a b : List Int} (h : a.length ≠ b.length) : eqB a b = false := by
  cases hb : eqB a b
  · rfl
  · rw [eqB_iff] at hb; exact absurd (congrArg List.length hb) h
theorem eqB_miss {a b : List Int} {k : Nat} (h : k < a.length) (h' : k < b.length) (hx : (a[k] != b[k]) = true) : eqB a b = false := by
  cases hb : eqB a b
  · rfl
  · rw [eqB_iff] at hb; subst hb; simp at hx
theorem eqB_take_succ {a b : List Int} {k : Nat} (h : k < a.length) (h' : k < b.length) (h0 : a.take k = b.take k) (hx : (a[k] != b[k]) = false) : a.take (k + 1) = b.take (k + 1) := by
  rw [List.take_succ_eq_append_getElem h, List.take_succ_eq_append_getElem h', h0]
  have : a[k] = b[k] := by simpa using hx
  rw [this]
theorem eqB_all {a b : List Int} {k : Nat} (hl : a.length = b.length) (hk : ¬ k < a.length) (h0 : a.take k = b.take k) : eqB a b = true := by
  rw [eqB_iff]
  rwa [List.take_of_length_le (by omega), List.take_of_length_le (by omega)] at h0

/-- keep.Mod -/
def modI (x n : Int) : Int := if n < 1 then 0 else if x.tmod n < 0 then x.tmod n + n else x.tmod n
theorem modI_neg {x n : Int} (h : n < 1) : modI x n = 0 := by unfold modI; rw [if_pos h]
theorem modI_pos {x n : Int} (h : 1 ≤ n) (h2 : 0 ≤ x.tmod n) : modI x n = x.tmod n := by unfold modI; rw [if_neg (by omega), if_neg (by omega)]
theorem modI_up {x n : Int} (h : 1 ≤ n) (h2 : x.tmod n < 0) : modI x n = x.tmod n + n := by unfold modI; rw [if_neg (by omega), if_pos h2]
theorem modI_range (x n : Int) (h : 1 ≤ n) : 0 ≤ modI x n ∧ modI x n < n := by
  have h1 := Int.tmod_lt_of_pos x (show 0 < n by omega)
  have h2 : -n < x.tmod n := by
    have := Int.tmod_lt_of_pos (-x) (show 0 < n by omega)
    rw [Int.neg_tmod] at this; omega
  unfold modI; rw [if_neg (by omega)]
  split <;> omega
theorem modI_zero (n : Int) (h : n < 1) (x : Int) : modI x n = 0 := modI_neg h

set_option maxHeartbeats 400000 in
theorem mod_any (x n : Int) (w : World) (hn : n ≤ 4611686018427387904) (hn' : -4611686018427387904 ≤ n) :
    Calls Tryd.prog 49 #[.int .i64 x, .int .i64 n] w (Ret (.int .i64 (modI x n)) w) := by
  by_cases h1 : n < 1
  · go_enter Tryd.func49, Tryd.ntmps49
    go_wp2
    go_ret
    exact ⟨ri (modI_neg h1).symm, rfl⟩
  · have h1' : 1 ≤ n := by omega
    clear h1
    have hr1 : x.tmod n < n := Int.tmod_lt_of_pos x (by omega)
    have hr2 : -n < x.tmod n := by
      have := Int.tmod_lt_of_pos (-x) (show 0 < n by omega)
      rw [Int.neg_tmod] at this; omega
    by_cases h2 : x.tmod n < 0
    · go_enter Tryd.func49, Tryd.ntmps49
      go_wp2
      go_ret
      exact ⟨ri (modI_up h1' h2).symm, rfl⟩
    · have h2' : 0 ≤ x.tmod n := by omega
      clear h2
      go_enter Tryd.func49, Tryd.ntmps49
      go_wp2
      go_ret
      exact ⟨ri (modI_pos h1' h2').symm, rfl⟩
end Go.Proofs.YtncimnfhfomddaaDoor

/- The reader of numbers (keep.Src): New, Raw, N, Part. -/
namespace Go.Proofs.YtncimnfhfomddaaDoor
open Go.ChangeShapes Go.WideShapes Go.ChangeAt Go.RowKit

/-- block g is just the cells cs of element type t, none of them frozen -/
def Blk (w : World) (g : Nat) (t : TypeId) (cs : Array Value) : Prop := w.heap[g]? = some (.cells cs t (0, 0))
section
variable {w w' : World} {g : Nat} {t : TypeId} {cs : Array Value}
theorem Blk.lt (h : Blk w g t cs) : g < w.heap.size := by
  rcases Nat.lt_or_ge g w.heap.size with hlt | hge
  · exact hlt
  · unfold Blk at h; rw [Array.getElem?_eq_none hge] at h; cases h
theorem Blk.cell (h : Blk w g t cs) (i : Nat) : w.cell? ⟨g, i, none⟩ = cs[i]? := cell_of_row w g i cs t (0, 0) h
theorem Blk.frozen (h : Blk w g t cs) (i : Nat) : w.frozen? ⟨g, i, none⟩ = false := by
  unfold Blk at h
  simp [World.frozen?, h]
theorem Blk.new (w : World) (t : TypeId) (cs : Array Value) : Blk (w.alloc (.cells cs t)) w.heap.size t cs := heap_alloc_new w _
theorem Blk.drewN (h : Blk w g t cs) (n : Nat) : Blk (w.drewN n) g t cs := h
theorem Blk.alloc (h : Blk w g t cs) (o : Obj) : Blk (w.alloc o) g t cs := (Below.heap_alloc w o g h.lt).trans h
theorem Blk.set_ (h : Blk w g t cs) (i : Nat) (u : Value) : Blk (w.setCell ⟨g, i, none⟩ u) g t (cs.setIfInBounds i u) := by
  unfold Blk at h ⊢
  simp [World.setCell, Array.getElem?_modify, h]
theorem Blk.far (h : Blk w g t cs) {p : Addr} (hp : g ≠ p.block) (u : Value) : Blk (w.setCell p u) g t cs := (Below.heap_setCell w p u g hp).trans h
theorem Blk.below {B : Nat} (h : Blk w g t cs) (hb : Below B w w') (hg : g < B) : Blk w' g t cs := (hb.block g hg).trans h
theorem Blk.grown {row : Option Nat} (h : Blk w g t cs) (hb : w.grownBy w' row) (hg : some g ≠ row) : Blk w' g t cs := (hb.block g h.lt hg).trans h
end

/-- two new blocks -/
theorem boxed2 (w : World) (t u : TypeId) (x y x' y' : Value) : ∃ W0, (w.alloc (.cells #[x, y] t)).alloc (.cells #[x', y'] u) = W0 ∧ Blk W0 w.heap.size t #[x, y] ∧ Blk W0 (w.heap.size + 1) u #[x', y'] ∧ Below w.heap.size w W0 ∧ w.heap.size + 1 < W0.heap.size := by
  refine ⟨_, rfl, (Blk.new w t _).alloc _, ?_, ((Below.refl _ _).alloc (Nat.le_refl _) _).alloc (by simp) _, by simp⟩
  have := Blk.new (w.alloc (.cells #[x, y] t)) u #[x', y']
  simpa using this
theorem Blk.two {w : World} {g : Nat} {t : TypeId} {x y : Value} (h : Blk w g t #[x, y]) : w.cell? ⟨g, 0, none⟩ = some x ∧ w.cell? ⟨g, 1, none⟩ = some y ∧ w.frozen? ⟨g, 0, none⟩ = false ∧ w.frozen? ⟨g, 1, none⟩ = false :=
  ⟨by rw [h.cell]; rfl, by rw [h.cell]; rfl, h.frozen 0, h.frozen 1⟩

theorem grownBy_setCell (w : World) (g i : Nat) (u : Value) : w.grownBy (w.setCell ⟨g, i, none⟩ u) (some g) :=
  ⟨rfl, rfl, rfl, by simp [World.setCell], fun k _ hne => Below.heap_setCell w ⟨g, i, none⟩ u k (fun e => hne (congrArg some e))⟩
theorem grownBy_refl (w : World) (row : Option Nat) : w.grownBy w row := ⟨rfl, rfl, rfl, Nat.le_refl _, fun _ _ _ => rfl⟩
theorem grownBy_trans {a b c : World} {row : Option Nat} (h : a.grownBy b row) (k : b.grownBy c row) : a.grownBy c row :=
  ⟨k.os.trans h.os, k.tape.trans h.tape, k.output.trans h.output, Nat.le_trans h.size k.size, fun i hi hne => (k.block i (Nat.lt_of_lt_of_le hi h.size) hne).trans (h.block i hi hne)⟩
theorem grownBy_drewN {a w : World} {row : Option Nat} (h : a.grownBy w row) (n : Nat) : a.grownBy (w.drewN n) row := ⟨h.os, h.tape, h.output, h.size, h.block⟩
theorem grownBy_of_below {a w : World} (h : Below a.heap.size a w) (row : Option Nat) : a.grownBy w row := ⟨h.os, h.tape, h.output, h.size, fun i hi _ => h.block i hi⟩
theorem below_of_grownBy {a w : World} {g B : Nat} (h : a.grownBy w (some g)) (hB : B ≤ g) (hB2 : B ≤ a.heap.size) : Below B a w :=
  ⟨h.os, h.tape, h.output, h.size, fun i hi => h.block i (by omega) (fun e => by injection e; omega)⟩

/-- p is the block of a reader: numbers that lie below p, at most 2000, and a place among them -/
def SrcOk (w : World) (p : Nat) : Prop :=
  ∃ (A : Option Addr) (l : List Int) (c at_ : Nat), Blk w p 81 #[.slice A l.length c, .int .i64 at_] ∧ at_ ≤ l.length ∧ l.length ≤ 2000 ∧
    (∀ k, k < l.length → ∃ b o, A = some ⟨b, o, none⟩ ∧ b < p ∧ w.cell? ⟨b, o + k, none⟩ = some (.int .i64 (l.getD k 0))) ∧ (∀ x ∈ l, -9223372036854775808 ≤ x ∧ x ≤ 9223372036854775807)

theorem SrcOk.lt {w : World} {p : Nat} (h : SrcOk w p) : p < w.heap.size := by
  obtain ⟨_, _, _, _, h, _⟩ := h
  exact h.lt
theorem SrcOk.kept {w w' : World} {p : Nat} (h : SrcOk w p) (hb : Below w.heap.size w w') : SrcOk w' p := by
  have hlt := h.lt
  obtain ⟨A, l, c, at_, h1, h2, h3, h4, h5⟩ := h
  refine ⟨A, l, c, at_, h1.below hb hlt, h2, h3, fun k hk => ?_, h5⟩
  obtain ⟨b, o, hA, hlt', hc⟩ := h4 k hk
  exact ⟨b, o, hA, hlt', (hb.cell (p := ⟨b, o + k, none⟩) (lt_of_cell hc)).trans hc⟩
theorem SrcOk.other {w w' : World} {p : Nat} {row : Option Nat} (h : SrcOk w p) (hb : w.grownBy w' row) (hr : ∀ k, row = some k → p < k) : SrcOk w' p := by
  have hlt := h.lt
  obtain ⟨A, l, c, at_, h1, h2, h3, h4, h5⟩ := h
  refine ⟨A, l, c, at_, h1.grown hb (fun e => by have := hr _ e.symm; omega), h2, h3, fun k hk => ?_, h5⟩
  obtain ⟨b, o, hA, hlt', hc⟩ := h4 k hk
  exact ⟨b, o, hA, hlt', hb.cell hc (fun e => by have := hr _ e.symm; simp at this; omega)⟩

/-- the call returns a number between lo and hi; the reader has gone on -/
def RetN (lo hi : Int) (w : World) (p : Nat) : Ending → World → Prop :=
  fun e w' => ∃ v : Int, e = .returned (.int .i64 v) ∧ lo ≤ v ∧ v ≤ hi ∧ SrcOk w' p ∧ w.grownBy w' (some p)

set_option maxHeartbeats 400000 in
theorem raw_any (p : Nat) (w : World) (h : SrcOk w p) :
    Calls Tryd.prog 50 #[.pointer (some ⟨p, 0, none⟩)] w (RetN (-9223372036854775808) 9223372036854775807 w p) := by
  have h0 := h
  obtain ⟨A, l, c, at_, hb, hat, hl, hcells, hx⟩ := h
  have Hx := Lib.hid hx; have H0 := Lib.hid h0; clear hx h0
  have c0 : w.cell? ⟨p, 0, none⟩ = some (.slice A l.length c) := by rw [hb.cell]; rfl
  have c1 : w.cell? ⟨p, 1, none⟩ = some (.int .i64 at_) := by rw [hb.cell]; rfl
  have f1 : w.frozen? ⟨p, 1, none⟩ = false := hb.frozen 1
  by_cases hlt : at_ < l.length
  · obtain ⟨b, o, rfl, hbp, hc⟩ := hcells at_ hlt
    have hc' : (w.setCell ⟨p, 1, none⟩ (.int .i64 (at_ + 1))).cell? ⟨b, o + at_, none⟩ = some (.int .i64 (l.getD at_ 0)) := by
      rw [World.cell?_setCell_other _ _ _ _ (fun e => by injection e with e; omega)]; exact hc
    have hge : decide ((l.length : Int) ≤ (at_ : Int)) = false := by simp; omega
    go_enter Tryd.func50, Tryd.ntmps50
    go_wp2
    go_quiet (fail)
    go_wp2
    have B1 := Blk.set_ (hb.drewN nq) 1 (.int .i64 ((at_ : Int) + 1))
    have G1 := grownBy_trans (grownBy_drewN (grownBy_refl w (some p)) nq) (grownBy_setCell (w.drewN nq) p 1 (.int .i64 ((at_ : Int) + 1)))
    generalize (w.drewN nq).setCell ⟨p, 1, none⟩ (.int .i64 ((at_ : Int) + 1)) = w1 at B1 G1 ⊢
    have g0 : w1.cell? ⟨p, 0, none⟩ = some (.slice (some ⟨b, o, none⟩) l.length c) := by rw [B1.cell]; rfl
    have g1 : w1.cell? ⟨p, 1, none⟩ = some (.int .i64 ((at_ : Int) + 1)) := by rw [B1.cell]; rfl
    have g2 : w1.cell? ⟨b, o + at_, none⟩ = some (.int .i64 (l.getD at_ 0)) := G1.cell hc (by simp; omega)
    clear c0 c1 f1 hc hge
    go_quiet (fail)
    go_wp2
    go_ret
    have hm := Hx.out (l.getD at_ 0) (by simp [List.getD, hlt])
    refine ⟨l.getD at_ 0, by simp [List.getD, hlt], hm.1, hm.2, ?_, grownBy_drewN G1 _⟩
    refine ⟨some ⟨b, o, none⟩, l, c, at_ + 1, B1, hlt, hl, fun k hk => ?_, Hx.out⟩
    obtain ⟨b', o', hA, hlt', hc⟩ := hcells k hk
    exact ⟨b', o', hA, hlt', (G1.cell hc (by simp; omega))⟩
  · have hge : decide ((l.length : Int) ≤ (at_ : Int)) = true := by simp; omega
    go_enter Tryd.func50, Tryd.ntmps50
    go_wp2
    go_quiet (fail)
    go_wp2
    go_ret
    exact ⟨0, rfl, by decide, by decide, H0.out, grownBy_drewN (grownBy_refl _ _) _⟩

set_option maxHeartbeats 400000 in
theorem n_any (p : Nat) (n : Int) (w : World) (h : SrcOk w p) (h1 : 1 ≤ n) (h2 : n ≤ 4611686018427387904) :
    Calls Tryd.prog 19 #[.pointer (some ⟨p, 0, none⟩), .int .i64 n] w (RetN 0 (n - 1) w p) := by
  go_enter Tryd.func19, Tryd.ntmps19
  go_wp2_with fail
  refine (raw_any p w h).mono ?_
  rintro e w1 ⟨v, rfl, hv1, hv2, hs, hg⟩
  go_wp2_with fail
  refine (mod_any v n w1 h2 (by omega)).mono ?_
  rintro e w2 ⟨rfl, rfl⟩
  have hr := modI_range v n h1
  go_wp2_with fail
  go_ret
  exact ⟨modI v n, rfl, hr.1, by omega, hs, hg⟩

set_option maxHeartbeats 400000 in
theorem n_zero (p : Nat) (n : Int) (w : World) (h : SrcOk w p) (h1 : n ≤ 0) (h2 : -4611686018427387904 ≤ n) :
    Calls Tryd.prog 19 #[.pointer (some ⟨p, 0, none⟩), .int .i64 n] w (RetN 0 0 w p) := by
  go_enter Tryd.func19, Tryd.ntmps19
  go_wp2_with fail
  refine (raw_any p w h).mono ?_
  rintro e w1 ⟨v, rfl, hv1, hv2, hs, hg⟩
  go_wp2_with fail
  refine (mod_any v n w1 (by omega) h2).mono ?_
  rintro e w2 ⟨rfl, rfl⟩
  go_wp2_with fail
  go_ret
  have hr := modI_neg (x := v) (n := n) (by omega)
  exact ⟨modI v n, rfl, by omega, by omega, hs, hg⟩

/-- the call returns a new reader -/
def RetNew (w : World) : Ending → World → Prop :=
  fun e w' => ∃ p, e = .returned (.pointer (some ⟨p, 0, none⟩)) ∧ w.heap.size ≤ p ∧ SrcOk w' p ∧ Below w.heap.size w w'

set_option maxHeartbeats 400000 in
theorem new_any (A : Option Addr) (l : List Int) (c : Nat) (w : World) (hlc : l.length ≤ c) (hc : c ≤ 9223372036854775807) (hr : RI w A l) (hx : ∀ x ∈ l, -9223372036854775808 ≤ x ∧ x ≤ 9223372036854775807) :
    Calls Tryd.prog 14 #[.slice A l.length c] w (RetNew w) := by
  have hr' : ∀ k, k < l.length → ∃ b o, A = some ⟨b, o, none⟩ ∧ b < w.heap.size ∧ w.cell? ⟨b, o + k, none⟩ = some (.int .i64 (l.getD k 0)) := fun k hk => by
    obtain ⟨b, o, h1, h2⟩ := hr k hk
    exact ⟨b, o, h1, lt_of_cell h2, h2⟩
  have Hx := Lib.hid hx; have Hr := Lib.hid hr'; clear hx hr hr'
  by_cases h2000 : 2000 < l.length
  · go_enter Tryd.func14, Tryd.ntmps14
    go_wp2
    go_ret
    refine ⟨w.heap.size, rfl, Nat.le_refl _, ⟨A, l.take 2000, c, 0, ?_, by simp, by simp; omega, fun k hk => ?_, fun x hm => Hx.out x (List.mem_of_mem_take hm)⟩, (Below.refl _ _).alloc (Nat.le_refl _) _⟩
    · have : (l.take 2000).length = 2000 := by simp; omega
      rw [this]; exact Blk.new w _ _
    · have hk' : k < 2000 := by simp at hk; omega
      obtain ⟨b, o, h1, h2, h3⟩ := Hr.out k (by omega)
      refine ⟨b, o, h1, h2, ?_⟩
      rw [World.cell?_alloc_lt w _ _ (by exact h2), h3]
      simp [List.getD, hk']
  · go_enter Tryd.func14, Tryd.ntmps14
    go_wp2
    go_ret
    refine ⟨w.heap.size, rfl, Nat.le_refl _, ⟨A, l, c, 0, Blk.new w _ _, by simp, by omega, fun k hk => ?_, Hx.out⟩, (Below.refl _ _).alloc (Nat.le_refl _) _⟩
    obtain ⟨b, o, h1, h2, h3⟩ := Hr.out k hk
    exact ⟨b, o, h1, h2, by rw [World.cell?_alloc_lt w _ _ (by exact h2), h3]⟩
end Go.Proofs.YtncimnfhfomddaaDoor

/- Slices of pairs, graphs by value; rows that the call itself made. -/
namespace Go.Proofs.YtncimnfhfomddaaDoor
open Go.ChangeShapes Go.WideShapes Go.ChangeAt Go.RowKit

/-- an address from which the pairs of the list can be read -/
def RP (w : World) (A : Option Addr) (l : List (Int × Int)) : Prop :=
  ∀ k, k < l.length → ∃ b o, A = some ⟨b, o, none⟩ ∧ w.cell? ⟨b, o + k * 2, none⟩ = some (.int .i64 (l.getD k (0, 0)).1) ∧ w.cell? ⟨b, o + k * 2 + 1, none⟩ = some (.int .i64 (l.getD k (0, 0)).2)
theorem RP.below {w w' : World} {A : Option Addr} {l : List (Int × Int)} (h : RP w A l) (hb : Below w.heap.size w w') : RP w' A l := by
  intro k hk
  obtain ⟨b, o, hA, hc, hd⟩ := h k hk
  exact ⟨b, o, hA, (hb.cell (p := ⟨b, o + k * 2, none⟩) (lt_of_cell hc)).trans hc, (hb.cell (p := ⟨b, o + k * 2 + 1, none⟩) (lt_of_cell hd)).trans hd⟩
theorem RP.nil (w : World) (A : Option Addr) : RP w A [] := fun k hk => absurd hk (by simp)
theorem RP.at_ {w : World} {A : Option Addr} {l : List (Int × Int)} (h : RP w A l) {k : Nat} (hk : k < l.length) :
    ∃ b o, A = some ⟨b, o, none⟩ ∧ w.cell? ⟨b, o + k * 2, none⟩ = some (.int .i64 l[k].1) ∧ w.cell? ⟨b, o + k * 2 + 1, none⟩ = some (.int .i64 l[k].2) := by
  obtain ⟨b, o, hA, hc, hd⟩ := h k hk
  exact ⟨b, o, hA, by rw [hc]; simp [List.getD, hk], by rw [hd]; simp [List.getD, hk]⟩
end Go.Proofs.YtncimnfhfomddaaDoor

/- Slices that the call itself makes: of numbers, of pairs, of slices; what an append leaves. -/
namespace Go.Proofs.YtncimnfhfomddaaDoor
open Go.ChangeShapes Go.WideShapes Go.ChangeAt Go.RowKit

theorem info_int : (Tryd.prog.info? 3).map (fun i => (i.zero, i.size, i.bytes)) = some (some (.int .i64 0), 1, 8) := by kernel_rfl

/-- the slice v, made by the call (in a block from base on), holds the numbers of the list -/
def OwnI (w : World) (base : Nat) (v : Value) (l : List Int) : Prop := w.ownsRow base 3 1 v l.length (l.map (Value.int .i64))
theorem OwnI.nil (w : World) (base : Nat) : OwnI w base (.slice none 0 0) [] := World.ownsRow_nil w base _ _
theorem OwnI.mono {w : World} {b b' : Nat} {v : Value} {l : List Int} (h : OwnI w b v l) (hb : b' ≤ b) : OwnI w b' v l := by
  obtain ⟨h1, h2⟩ := h
  refine ⟨h1, ?_⟩
  rcases h2 with h2 | ⟨g, cap, cur, hv, hg, r⟩
  · exact .inl h2
  · exact .inr ⟨g, cap, cur, hv, Nat.le_trans hb hg, r⟩
theorem OwnI.form {w : World} {b : Nat} {v : Value} {l : List Int} (h : OwnI w b v l) : ∃ A c, v = .slice A l.length c ∧ RI w A l ∧ (A = none → l = []) := by
  have h' := h
  obtain ⟨h1, h2⟩ := h
  rcases h2 with ⟨rfl, hn⟩ | ⟨g, cap, cur, rfl, hg, r⟩
  · have : l = [] := List.eq_nil_of_length_eq_zero hn
    subst this
    exact ⟨none, 0, rfl, RI.nil _ _, fun _ => rfl⟩
  · refine ⟨_, _, rfl, fun k hk => ⟨g, 0, rfl, ?_⟩, fun e => by cases e⟩
    have hc := h'.cells (g := g) rfl k (.int .i64 (l.getD k 0)) (by simp [List.getD, hk])
    rw [show (⟨g, 0, none⟩ : Addr).add k = ⟨g, 0 + k, none⟩ by unfold Addr.add; split <;> simp_all] at hc
    exact hc
theorem OwnI.below {w w' : World} {b : Nat} {v : Value} {l : List Int} (h : OwnI w b v l) (hb : Below w.heap.size w w') : OwnI w' b v l :=
  World.ownsRow.kept h (row := none) ⟨hb.os, hb.tape, hb.output, hb.size, fun k hk _ => hb.block k hk⟩ (by cases v.ownBlock <;> simp)

/-- the call returns a new slice that holds the list, in a block from base on; what was there is as it was -/
def RetJ (l : List Int) (base : Nat) (w : World) : Ending → World → Prop := fun e w' => ∃ A c, e = .returned (.slice A l.length c) ∧ OwnI w' base (.slice A l.length c) l ∧ RI w' A l ∧ (A = none → l = []) ∧ Below w.heap.size w w'
def RetI (l : List Int) (w : World) : Ending → World → Prop := RetJ l w.heap.size w
theorem RetI.mk {l : List Int} {w w' : World} {v : Value} (h : OwnI w' w.heap.size v l) (hb : Below w.heap.size w w') : RetI l w (.returned v) w' := by
  obtain ⟨A, c, rfl, hr, hn⟩ := h.form
  exact ⟨A, c, rfl, h, hr, hn, hb⟩
theorem RetI.base {l : List Int} {w : World} {B : Nat} {e : Ending} {w' : World} (h : RetI l w e w') (hB : B ≤ w.heap.size) : RetJ l B w e w' := by
  obtain ⟨A, c, he, ho, hr, hn, hb⟩ := h
  exact ⟨A, c, he, OwnI.mono ho hB, hr, hn, hb⟩

theorem new_cell (w : World) (v : Value) (t : TypeId) : ∀ j u, [v][j]? = some u → (w.alloc (.cells #[v] t)).cell? ((⟨w.heap.size, 0, none⟩ : Addr).add j) = some u := by
  intro j u hj
  match j, hj with
  | 0, hj =>
    simp at hj; subst hj
    have := (Blk.new w t #[v]).cell 0
    simp [Addr.add, this]


/-- 'out = append(out, y)', out a slice of numbers of the call's own; y lies in a block of its own -/
theorem wpList_appI {ops : Array Oper} {rest : List Oper} {o : Oper} {a : Act} {Q : Exit → Act → World → Prop} (hgd : o.guard = none) (s x : Operand)
    (ho : o.op = .call { callee := .builtin .append, args := #[s, x], argTypes := #[25, 25] })
    (X : World) (base : Nat) (v : Value) (l : List Int) (y : Int) (hown : OwnI X base v l) (hs : a.eval s = v) (hx : a.eval x = .slice (some ⟨X.heap.size, 0, none⟩) 1 1)
    (hlen : l.length ≤ 1000000) (hbase : base ≤ X.heap.size)
    (h : ∀ v' w', OwnI w' base v' (l ++ [y]) → Below base X w' → X.grownBy w' v.ownBlock → wpList Tryd.prog ops Q rest (a.put o.dst v') w') :
    wpList Tryd.prog ops Q (o :: rest) a (X.alloc (.cells #[.int .i64 y] 3)) := by
  obtain ⟨i0, hi, hz0, hz1, hz2⟩ := info_parts info_int
  refine wpList_append_own _ hgd s x 25 ho base 3 i0 (.int .i64 0) 1 8 Tryd.underlying25 hi hz0 hz1 hz2 rfl (by decide) v l.length _ hs (World.ownsRow.alloc hown _) ⟨X.heap.size, 0, none⟩ 1 1 [.int .i64 y] hx rfl (new_cell _ _ _)
    (by intro u hu; simp at hu; subst hu; rfl) (by unfold maxLen; omega) (by omega) (by simp; omega) ?_
  intro v' w1 hown' hgrow _
  refine h v' w1 ?_ ?_ ?_
  · unfold OwnI; rw [List.length_append, List.map_append]; exact hown'
  · exact ((Below.refl base X).alloc hbase _).grown hgrow (by simp; omega) (fun k hk => ((World.ownsRow.alloc hown (.cells #[.int .i64 y] 3)).lt k hk).1)
  · exact ⟨hgrow.os, hgrow.tape, hgrow.output, Nat.le_trans (by simp) hgrow.size, fun k hk hne => (hgrow.block k (by simp; omega) hne).trans (Below.heap_alloc _ _ _ hk)⟩

theorem info_pair : (Tryd.prog.info? 42).map (fun i => (i.zero, i.size, i.bytes)) = some (some (.agg #[.int .i64 0, .int .i64 0]), 2, 16) := by kernel_rfl
def flatP (l : List (Int × Int)) : List Value := l.flatMap fun p => [.int .i64 p.1, .int .i64 p.2]
theorem flatP_length (l : List (Int × Int)) : (flatP l).length = l.length * 2 := by
  unfold flatP
  induction l with
  | nil => rfl
  | cons p l ih => rw [List.flatMap_cons, List.length_append, ih]; simp; omega
theorem flatP_at (l : List (Int × Int)) (k : Nat) (h : k < l.length) : (flatP l)[k * 2]? = some (.int .i64 (l.getD k (0, 0)).1) ∧ (flatP l)[k * 2 + 1]? = some (.int .i64 (l.getD k (0, 0)).2) := by
  induction l generalizing k with
  | nil => simp at h
  | cons p l ih =>
    cases k with
    | zero => simp [flatP]
    | succ k =>
      have := ih k (by simpa using h)
      have e : (k + 1) * 2 = k * 2 + 2 := by omega
      simp only [flatP, List.flatMap_cons] at this ⊢
      rw [e]
      simp only [List.cons_append, List.nil_append, List.getElem?_cons_succ, List.getD_cons_succ] at this ⊢
      exact this
/-- the slice v, made by the call, holds the pairs of the list -/
def OwnP (w : World) (base : Nat) (v : Value) (l : List (Int × Int)) : Prop := w.ownsRow base 42 2 v l.length (flatP l)
theorem OwnP.nil (w : World) (base : Nat) : OwnP w base (.slice none 0 0) [] := World.ownsRow_nil w base _ _
theorem ownsRow_mono {w : World} {b b' : Nat} {e : TypeId} {size n : Nat} {v : Value} {xs : List Value} (h : w.ownsRow b e size v n xs) (hb : b' ≤ b) : w.ownsRow b' e size v n xs := by
  obtain ⟨h1, h2⟩ := h
  refine ⟨h1, ?_⟩
  rcases h2 with h2 | ⟨g, cap, cur, hv, hg, r⟩
  · exact .inl h2
  · exact .inr ⟨g, cap, cur, hv, Nat.le_trans hb hg, r⟩
theorem ownsRow_below {w w' : World} {b : Nat} {e : TypeId} {size n : Nat} {v : Value} {xs : List Value} (h : w.ownsRow b e size v n xs) (hb : Below w.heap.size w w') : w'.ownsRow b e size v n xs :=
  World.ownsRow.kept h (row := none) ⟨hb.os, hb.tape, hb.output, hb.size, fun k hk _ => hb.block k hk⟩ (by cases v.ownBlock <;> simp)
theorem OwnP.form {w : World} {b : Nat} {v : Value} {l : List (Int × Int)} (h : OwnP w b v l) : ∃ A c, v = .slice A l.length c ∧ RP w A l ∧ (A = none → l = []) := by
  have h' := h
  obtain ⟨h1, h2⟩ := h
  rcases h2 with ⟨rfl, hn⟩ | ⟨g, cap, cur, rfl, hg, r⟩
  · have : l = [] := List.eq_nil_of_length_eq_zero hn
    subst this
    exact ⟨none, 0, rfl, RP.nil _ _, fun _ => rfl⟩
  · refine ⟨_, _, rfl, fun k hk => ?_, fun e => by cases e⟩
    have h0 := flatP_at l k hk
    have c0 := h'.cells (g := g) rfl _ _ h0.1
    have c1 := h'.cells (g := g) rfl _ _ h0.2
    rw [show (⟨g, 0, none⟩ : Addr).add (k * 2) = ⟨g, 0 + k * 2, none⟩ by unfold Addr.add; split <;> simp_all] at c0
    rw [show (⟨g, 0, none⟩ : Addr).add (k * 2 + 1) = ⟨g, 0 + k * 2 + 1, none⟩ by unfold Addr.add; split <;> simp_all] at c1
    exact ⟨g, 0, rfl, c0, c1⟩
theorem new_pair (w : World) (x y : Value) (t : TypeId) : ∀ j u, [x, y][j]? = some u → (w.alloc (.cells #[x, y] t)).cell? ((⟨w.heap.size, 0, none⟩ : Addr).add j) = some u := by
  intro j u hj
  match j, hj with
  | 0, hj =>
    simp at hj; subst hj
    have := (Blk.new w t #[x, y]).cell 0
    simp [Addr.add, this]
  | 1, hj =>
    simp at hj; subst hj
    have := (Blk.new w t #[x, y]).cell 1
    simp [Addr.add, this]
/-- 'out = append(out, api.Pair{..})' -/
theorem wpList_appP {ops : Array Oper} {rest : List Oper} {o : Oper} {a : Act} {Q : Exit → Act → World → Prop} (hgd : o.guard = none) (s x : Operand)
    (ho : o.op = .call { callee := .builtin .append, args := #[s, x], argTypes := #[22, 22] })
    (X : World) (base : Nat) (v : Value) (l : List (Int × Int)) (y z : Int) (hown : OwnP X base v l) (hs : a.eval s = v) (hx : a.eval x = .slice (some ⟨X.heap.size, 0, none⟩) 1 1)
    (hlen : l.length ≤ 1000000) (hbase : base ≤ X.heap.size)
    (h : ∀ v' w', OwnP w' base v' (l ++ [(y, z)]) → Below base X w' → X.grownBy w' v.ownBlock → wpList Tryd.prog ops Q rest (a.put o.dst v') w') :
    wpList Tryd.prog ops Q (o :: rest) a (X.alloc (.cells #[.int .i64 y, .int .i64 z] 42)) := by
  obtain ⟨i0, hi, hz0, hz1, hz2⟩ := info_parts info_pair
  refine wpList_append_own _ hgd s x 22 ho base 42 i0 _ 2 16 Tryd.underlying22 hi hz0 hz1 hz2 rfl (by decide) v l.length _ hs (World.ownsRow.alloc hown _) ⟨X.heap.size, 0, none⟩ 1 1 [.int .i64 y, .int .i64 z] hx rfl (new_pair _ _ _ _)
    (by intro u hu; simp at hu; rcases hu with rfl | rfl <;> rfl) (by unfold maxLen; omega) (by omega) (by simp; omega) ?_
  intro v' w1 hown' hgrow _
  refine h v' w1 ?_ ?_ ?_
  · unfold OwnP; rw [List.length_append]; simp only [flatP, List.flatMap_append]; exact hown'
  · exact ((Below.refl base X).alloc hbase _).grown hgrow (by simp; omega) (fun k hk => ((World.ownsRow.alloc hown (.cells #[.int .i64 y, .int .i64 z] 42)).lt k hk).1)
  · exact ⟨hgrow.os, hgrow.tape, hgrow.output, Nat.le_trans (by simp) hgrow.size, fun k hk hne => (hgrow.block k (by simp; omega) hne).trans (Below.heap_alloc _ _ _ hk)⟩

theorem info_ints : (Tryd.prog.info? 25).map (fun i => (i.zero, i.size, i.bytes)) = some (some (.slice none 0 0), 1, 24) := by kernel_rfl
/-- the values are slices that read as the lists -/
def RLs (w : World) (xs : List Value) (ls : List (List Int)) : Prop := xs.length = ls.length ∧ ∀ k, k < ls.length → ∃ A c, xs[k]? = some (.slice A (ls.getD k []).length c) ∧ RI w A (ls.getD k [])
theorem RLs.nil (w : World) : RLs w [] [] := ⟨rfl, fun k hk => absurd hk (by simp)⟩
theorem RLs.below {w w' : World} {xs : List Value} {ls : List (List Int)} (h : RLs w xs ls) (hb : Below w.heap.size w w') : RLs w' xs ls :=
  ⟨h.1, fun k hk => by obtain ⟨A, c, h1, h2⟩ := h.2 k hk; exact ⟨A, c, h1, h2.below hb⟩⟩
theorem RLs.snoc {w : World} {xs : List Value} {ls : List (List Int)} {A : Option Addr} {l : List Int} {c : Nat} (h : RLs w xs ls) (hr : RI w A l) : RLs w (xs ++ [.slice A l.length c]) (ls ++ [l]) := by
  refine ⟨by simp [h.1], fun k hk => ?_⟩
  by_cases hk' : k < ls.length
  · obtain ⟨A', c', h1, h2⟩ := h.2 k hk'
    have e : (ls ++ [l]).getD k [] = ls.getD k [] := by simp only [List.getD]; rw [List.getElem?_append_left hk']
    rw [e]
    exact ⟨A', c', by rw [List.getElem?_append_left (by rw [h.1]; exact hk')]; exact h1, h2⟩
  · have hk2 : k = ls.length := by simp at hk; omega
    subst hk2
    have e : (ls ++ [l]).getD ls.length [] = l := by simp [List.getD]
    rw [e]
    exact ⟨A, c, by rw [← h.1]; simp, hr⟩
/-- the slice v, made by the call, holds the values (slices) -/
def OwnS (w : World) (base : Nat) (v : Value) (xs : List Value) : Prop := w.ownsRow base 25 1 v xs.length xs
theorem OwnS.nil (w : World) (base : Nat) : OwnS w base (.slice none 0 0) [] := World.ownsRow_nil w base _ _
/-- the slices that can be read from an address -/
def RS (w : World) (A : Option Addr) (ls : List (List Int)) : Prop :=
  ∀ k, k < ls.length → ∃ b o A' c', A = some ⟨b, o, none⟩ ∧ w.cell? ⟨b, o + k, none⟩ = some (.slice A' (ls.getD k []).length c') ∧ RI w A' (ls.getD k [])
theorem RS.below {w w' : World} {A : Option Addr} {ls : List (List Int)} (h : RS w A ls) (hb : Below w.heap.size w w') : RS w' A ls := by
  intro k hk
  obtain ⟨b, o, A', c', hA, hc, hr⟩ := h k hk
  exact ⟨b, o, A', c', hA, (hb.cell (p := ⟨b, o + k, none⟩) (lt_of_cell hc)).trans hc, hr.below hb⟩
theorem RS.at_ {w : World} {A : Option Addr} {ls : List (List Int)} (h : RS w A ls) {k : Nat} (hk : k < ls.length) :
    ∃ b o A' c', A = some ⟨b, o, none⟩ ∧ w.cell? ⟨b, o + k, none⟩ = some (.slice A' ls[k].length c') ∧ RI w A' ls[k] := by
  obtain ⟨b, o, A', c', hA, hc, hr⟩ := h k hk
  have e : ls.getD k [] = ls[k] := by simp [List.getD, hk]
  rw [e] at hc hr
  exact ⟨b, o, A', c', hA, hc, hr⟩
theorem OwnS.form {w : World} {b : Nat} {v : Value} {xs : List Value} {ls : List (List Int)} (h : OwnS w b v xs) (hl : RLs w xs ls) : ∃ A c, v = .slice A ls.length c ∧ RS w A ls ∧ (A = none → ls = []) := by
  have h' := h
  obtain ⟨h1, h2⟩ := h
  rcases h2 with ⟨rfl, hn⟩ | ⟨g, cap, cur, rfl, hg, r⟩
  · have : ls = [] := List.eq_nil_of_length_eq_zero (by rw [← hl.1]; exact hn)
    subst this
    exact ⟨none, 0, rfl, fun k hk => absurd hk (by simp), fun _ => rfl⟩
  · refine ⟨some ⟨g, 0, none⟩, cap, by rw [hl.1], fun k hk => ?_, fun e => by cases e⟩
    obtain ⟨A', c', hx, hr⟩ := hl.2 k hk
    have c0 := h'.cells (g := g) rfl _ _ hx
    rw [show (⟨g, 0, none⟩ : Addr).add k = ⟨g, 0 + k, none⟩ by unfold Addr.add; split <;> simp_all] at c0
    exact ⟨g, 0, A', c', rfl, c0, hr⟩
/-- 'out = append(out, set)' for a slice of slices -/
theorem wpList_appS {ops : Array Oper} {rest : List Oper} {o : Oper} {a : Act} {Q : Exit → Act → World → Prop} (hgd : o.guard = none) (s x : Operand)
    (ho : o.op = .call { callee := .builtin .append, args := #[s, x], argTypes := #[53, 53] })
    (X : World) (base : Nat) (v : Value) (xs : List Value) (A : Option Addr) (n c : Nat) (hown : OwnS X base v xs) (hs : a.eval s = v) (hx : a.eval x = .slice (some ⟨X.heap.size, 0, none⟩) 1 1)
    (hlen : xs.length ≤ 1000000) (hbase : base ≤ X.heap.size)
    (h : ∀ v' w', OwnS w' base v' (xs ++ [.slice A n c]) → Below base X w' → X.grownBy w' v.ownBlock → wpList Tryd.prog ops Q rest (a.put o.dst v') w') :
    wpList Tryd.prog ops Q (o :: rest) a (X.alloc (.cells #[.slice A n c] 25)) := by
  obtain ⟨i0, hi, hz0, hz1, hz2⟩ := info_parts info_ints
  refine wpList_append_own _ hgd s x 53 ho base 25 i0 _ 1 24 Tryd.underlying53 hi hz0 hz1 hz2 rfl (by decide) v xs.length _ hs (World.ownsRow.alloc hown _) ⟨X.heap.size, 0, none⟩ 1 1 [.slice A n c] hx rfl (new_cell _ _ _)
    (by intro u hu; simp at hu; subst hu; rfl) (by unfold maxLen; omega) (by omega) (by simp; omega) ?_
  intro v' w1 hown' hgrow _
  refine h v' w1 ?_ ?_ ?_
  · unfold OwnS; rw [List.length_append]; exact hown'
  · exact ((Below.refl base X).alloc hbase _).grown hgrow (by simp; omega) (fun k hk => ((World.ownsRow.alloc hown (.cells #[.slice A n c] 25)).lt k hk).1)
  · exact ⟨hgrow.os, hgrow.tape, hgrow.output, Nat.le_trans (by simp) hgrow.size, fun k hk hne => (hgrow.block k (by simp; omega) hne).trans (Below.heap_alloc _ _ _ hk)⟩
end Go.Proofs.YtncimnfhfomddaaDoor
