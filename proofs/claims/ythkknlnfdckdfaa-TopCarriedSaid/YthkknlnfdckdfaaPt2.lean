/- Package protocol: the table of a dialogue. (The region of three effects is printed by gen_of.py.) -/
import Derived.Test.YthkknlnfdckdfaaPt1
import Derived.Test.YthkknlnfdckdfaaTx3
import Derived.Test.YthkknlnfdckdfaaTxtZ
namespace Go.Proofs.Ythkknlnfdckdfaa
open Go.ChangeShapes Go.WideShapes Go.ChangeAt Go.RowKit

theorem dgC {w : World} {g : Nat} {t : TypeId} {x0 x1 x2 x3 x4 x5 : Value} (h : Blk w g t #[x0, x1, x2, x3, x4, x5]) : w.cell? ⟨g, 0, none⟩ = some x0 ∧ w.cell? ⟨g, 1, none⟩ = some x1 ∧ w.cell? ⟨g, 2, none⟩ = some x2 ∧ w.cell? ⟨g, 3, none⟩ = some x3 ∧ w.cell? ⟨g, 4, none⟩ = some x4 ∧ w.cell? ⟨g, 5, none⟩ = some x5 :=
  ⟨by rw [h.cell]; rfl, by rw [h.cell]; rfl, by rw [h.cell]; rfl, by rw [h.cell]; rfl, by rw [h.cell]; rfl, by rw [h.cell]; rfl⟩
theorem tbC {w : World} {g : Nat} {t : TypeId} {x0 x1 x2 x3 x4 x5 x6 x7 x8 : Value} (h : Blk w g t #[x0, x1, x2, x3, x4, x5, x6, x7, x8]) : w.cell? ⟨g, 0, none⟩ = some x0 ∧ w.cell? ⟨g, 1, none⟩ = some x1 ∧ w.cell? ⟨g, 2, none⟩ = some x2 ∧ w.cell? ⟨g, 3, none⟩ = some x3 ∧ w.cell? ⟨g, 4, none⟩ = some x4 ∧ w.cell? ⟨g, 5, none⟩ = some x5 ∧ w.cell? ⟨g, 6, none⟩ = some x6 ∧ w.cell? ⟨g, 7, none⟩ = some x7 ∧ w.cell? ⟨g, 8, none⟩ = some x8 :=
  ⟨by rw [h.cell]; rfl, by rw [h.cell]; rfl, by rw [h.cell]; rfl, by rw [h.cell]; rfl, by rw [h.cell]; rfl, by rw [h.cell]; rfl, by rw [h.cell]; rfl, by rw [h.cell]; rfl, by rw [h.cell]; rfl⟩
theorem RM.cells {w : World} {b o : Nat} {ms : List Mv} (h : RM w (some ⟨b, o, none⟩) ms) {k : Nat} (hk : k < ms.length) : w.cell? ⟨b, o + k * 4, none⟩ = some (.int .i64 (mv ms k).1) ∧ w.cell? ⟨b, o + k * 4 + 1, none⟩ = some (.int .i64 (mv ms k).2.1) ∧ w.cell? ⟨b, o + k * 4 + 2, none⟩ = some (.int .i64 (mv ms k).2.2.1) ∧ w.cell? ⟨b, o + k * 4 + 3, none⟩ = some (.int .i64 (mv ms k).2.2.2) := by
  obtain ⟨b', o', hA, h0, h1, h2, h3⟩ := h k hk
  injection hA with hA
  injection hA with e1 e2 _
  subst e1 e2
  exact ⟨h0, h1, h2, h3⟩
def st9 (w : World) (g : Nat) (x0 x1 x2 x3 x4 x5 x6 x7 x8 : Value) : World := (((((((((w.setCell ⟨g, 0, none⟩ x0).setCell ⟨g, 1, none⟩ x1).setCell ⟨g, 2, none⟩ x2).setCell ⟨g, 3, none⟩ x3).setCell ⟨g, 4, none⟩ x4).setCell ⟨g, 5, none⟩ x5).setCell ⟨g, 6, none⟩ x6).setCell ⟨g, 7, none⟩ x7).setCell ⟨g, 8, none⟩ x8)
theorem st9_blk {w : World} {g : Nat} {t : TypeId} {y0 y1 y2 y3 y4 y5 y6 y7 y8 : Value} (h : Blk w g t #[y0, y1, y2, y3, y4, y5, y6, y7, y8]) (x0 x1 x2 x3 x4 x5 x6 x7 x8 : Value) : Blk (st9 w g x0 x1 x2 x3 x4 x5 x6 x7 x8) g t #[x0, x1, x2, x3, x4, x5, x6, x7, x8] := by
  have h0 : Blk (w.setCell ⟨g, 0, none⟩ x0) g t #[x0, y1, y2, y3, y4, y5, y6, y7, y8] := h.set_ 0 x0
  have h1 : Blk ((w.setCell ⟨g, 0, none⟩ x0).setCell ⟨g, 1, none⟩ x1) g t #[x0, x1, y2, y3, y4, y5, y6, y7, y8] := h0.set_ 1 x1
  have h2 : Blk (((w.setCell ⟨g, 0, none⟩ x0).setCell ⟨g, 1, none⟩ x1).setCell ⟨g, 2, none⟩ x2) g t #[x0, x1, x2, y3, y4, y5, y6, y7, y8] := h1.set_ 2 x2
  have h3 : Blk ((((w.setCell ⟨g, 0, none⟩ x0).setCell ⟨g, 1, none⟩ x1).setCell ⟨g, 2, none⟩ x2).setCell ⟨g, 3, none⟩ x3) g t #[x0, x1, x2, x3, y4, y5, y6, y7, y8] := h2.set_ 3 x3
  have h4 : Blk (((((w.setCell ⟨g, 0, none⟩ x0).setCell ⟨g, 1, none⟩ x1).setCell ⟨g, 2, none⟩ x2).setCell ⟨g, 3, none⟩ x3).setCell ⟨g, 4, none⟩ x4) g t #[x0, x1, x2, x3, x4, y5, y6, y7, y8] := h3.set_ 4 x4
  have h5 : Blk ((((((w.setCell ⟨g, 0, none⟩ x0).setCell ⟨g, 1, none⟩ x1).setCell ⟨g, 2, none⟩ x2).setCell ⟨g, 3, none⟩ x3).setCell ⟨g, 4, none⟩ x4).setCell ⟨g, 5, none⟩ x5) g t #[x0, x1, x2, x3, x4, x5, y6, y7, y8] := h4.set_ 5 x5
  have h6 : Blk (((((((w.setCell ⟨g, 0, none⟩ x0).setCell ⟨g, 1, none⟩ x1).setCell ⟨g, 2, none⟩ x2).setCell ⟨g, 3, none⟩ x3).setCell ⟨g, 4, none⟩ x4).setCell ⟨g, 5, none⟩ x5).setCell ⟨g, 6, none⟩ x6) g t #[x0, x1, x2, x3, x4, x5, x6, y7, y8] := h5.set_ 6 x6
  have h7 : Blk ((((((((w.setCell ⟨g, 0, none⟩ x0).setCell ⟨g, 1, none⟩ x1).setCell ⟨g, 2, none⟩ x2).setCell ⟨g, 3, none⟩ x3).setCell ⟨g, 4, none⟩ x4).setCell ⟨g, 5, none⟩ x5).setCell ⟨g, 6, none⟩ x6).setCell ⟨g, 7, none⟩ x7) g t #[x0, x1, x2, x3, x4, x5, x6, x7, y8] := h6.set_ 7 x7
  have h8 : Blk (((((((((w.setCell ⟨g, 0, none⟩ x0).setCell ⟨g, 1, none⟩ x1).setCell ⟨g, 2, none⟩ x2).setCell ⟨g, 3, none⟩ x3).setCell ⟨g, 4, none⟩ x4).setCell ⟨g, 5, none⟩ x5).setCell ⟨g, 6, none⟩ x6).setCell ⟨g, 7, none⟩ x7).setCell ⟨g, 8, none⟩ x8) g t #[x0, x1, x2, x3, x4, x5, x6, x7, x8] := h7.set_ 8 x8
  exact h8
theorem st9_below {B : Nat} {a w : World} {g : Nat} (h : Below B a w) (hg : B ≤ g) (x0 x1 x2 x3 x4 x5 x6 x7 x8 : Value) : Below B a (st9 w g x0 x1 x2 x3 x4 x5 x6 x7 x8) := (((((((((h.setCell (p := ⟨g, 0, none⟩) hg x0).setCell (p := ⟨g, 1, none⟩) hg x1).setCell (p := ⟨g, 2, none⟩) hg x2).setCell (p := ⟨g, 3, none⟩) hg x3).setCell (p := ⟨g, 4, none⟩) hg x4).setCell (p := ⟨g, 5, none⟩) hg x5).setCell (p := ⟨g, 6, none⟩) hg x6).setCell (p := ⟨g, 7, none⟩) hg x7).setCell (p := ⟨g, 8, none⟩) hg x8)
theorem st9_row {w : World} {g g' n : Nat} {t : TypeId} {f : Nat → Value} (h : w.rowIs g' t n f) (hg : g' ≠ g) (x0 x1 x2 x3 x4 x5 x6 x7 x8 : Value) : (st9 w g x0 x1 x2 x3 x4 x5 x6 x7 x8).rowIs g' t n f := (World.rowIs.setOther (World.rowIs.setOther (World.rowIs.setOther (World.rowIs.setOther (World.rowIs.setOther (World.rowIs.setOther (World.rowIs.setOther (World.rowIs.setOther (World.rowIs.setOther h (a := ⟨g, 0, none⟩) hg x0) (a := ⟨g, 1, none⟩) hg x1) (a := ⟨g, 2, none⟩) hg x2) (a := ⟨g, 3, none⟩) hg x3) (a := ⟨g, 4, none⟩) hg x4) (a := ⟨g, 5, none⟩) hg x5) (a := ⟨g, 6, none⟩) hg x6) (a := ⟨g, 7, none⟩) hg x7) (a := ⟨g, 8, none⟩) hg x8)
theorem st9_size (w : World) (g : Nat) (x0 x1 x2 x3 x4 x5 x6 x7 x8 : Value) : (st9 w g x0 x1 x2 x3 x4 x5 x6 x7 x8).heap.size = w.heap.size := by unfold st9; simp
theorem boxed2A (w : World) (t u : TypeId) (cs ds : Array Value) : ∃ W0, (w.alloc (.cells cs t)).alloc (.cells ds u) = W0 ∧ Blk W0 w.heap.size t cs ∧ Blk W0 (w.heap.size + 1) u ds ∧ Below w.heap.size w W0 ∧ W0.heap.size = w.heap.size + 2 := by
  refine ⟨_, rfl, (Blk.new w t cs).alloc _, ?_, ((Below.refl _ _).alloc (Nat.le_refl _) _).alloc (by simp) _, by simp⟩
  have := Blk.new (w.alloc (.cells cs t)) u ds
  simpa using this
theorem tbF {w : World} {g : Nat} {t : TypeId} {cs : Array Value} (h : Blk w g t cs) : w.frozen? ⟨g, 0, none⟩ = false ∧ w.frozen? ⟨g, 1, none⟩ = false ∧ w.frozen? ⟨g, 2, none⟩ = false ∧ w.frozen? ⟨g, 3, none⟩ = false ∧ w.frozen? ⟨g, 4, none⟩ = false ∧ w.frozen? ⟨g, 5, none⟩ = false ∧ w.frozen? ⟨g, 6, none⟩ = false ∧ w.frozen? ⟨g, 7, none⟩ = false ∧ w.frozen? ⟨g, 8, none⟩ = false :=
  ⟨h.frozen 0, h.frozen 1, h.frozen 2, h.frozen 3, h.frozen 4, h.frozen 5, h.frozen 6, h.frozen 7, h.frozen 8⟩
/-- which of the three blocks are there -/
structure OfJ (B : Nat) (ms : List Mv) (a b c : Option Nat) (w : World) : Prop where
  fa : ∀ g, a = some g → B ≤ g ∧ Row w g ms.length (stF ms)
  fb : ∀ g, b = some g → B ≤ g ∧ RowB w g ms.length (fun _ => false)
  fc : ∀ g, c = some g → B ≤ g ∧ Blk w g 102 #[.int .i64 0, .slice none 0 0, .int .i64 0, .int .i64 0, .int .i64 0, .slice none 0 0, .slice none 0 0, .int .i64 0, .slice none 0 0]
  ab : ∀ x y, a = some x → b = some y → x ≠ y
  ac : ∀ x y, a = some x → c = some y → x ≠ y
  bc : ∀ x y, b = some x → c = some y → x ≠ y
section
variable {B : Nat} {ms : List Mv} {a b c : Option Nat} {w : World}
theorem OfJ.start : OfJ B ms none none none w := ⟨fun _ h => (by cases h), fun _ h => (by cases h), fun _ h => (by cases h), fun _ _ h => (by cases h), fun _ _ h => (by cases h), fun _ _ h => (by cases h)⟩
theorem OfJ.addA (h : OfJ B ms none b c w) (hB : B ≤ w.heap.size) {w' : World} (hb : Below w.heap.size w w') {g : Nat} (hg : w.heap.size ≤ g) (hr : Row w' g ms.length (stF ms)) : OfJ B ms (some g) b c w' :=
  ⟨fun q e => by injection e with e; subst e; exact ⟨Nat.le_trans hB hg, hr⟩, fun q e => ⟨(h.fb q e).1, rowIs_new (h.fb q e).2 hb⟩, fun q e => ⟨(h.fc q e).1, (h.fc q e).2.below hb (h.fc q e).2.lt⟩,
   fun x y e1 e2 => by injection e1 with e1; have := (h.fb y e2).2.lt; omega, fun x y e1 e2 => by injection e1 with e1; have := (h.fc y e2).2.lt; omega, h.bc⟩
theorem OfJ.addB (h : OfJ B ms a none c w) (hB : B ≤ w.heap.size) : OfJ B ms a (some w.heap.size) c (w.alloc (.cells (madeCells #[.bool false] ms.length) 4)) :=
  ⟨fun q e => ⟨(h.fa q e).1, World.rowIs.alloc (h.fa q e).2 _⟩, fun q e => by injection e with e; subst e; exact ⟨hB, World.rowIs_made _ _ _ _⟩, fun q e => ⟨(h.fc q e).1, (h.fc q e).2.alloc _⟩,
   fun x y e1 e2 => by injection e2 with e2; have := World.rowIs.lt (h.fa x e1).2; omega, h.ac, fun x y e1 e2 => by injection e1 with e1; have := (h.fc y e2).2.lt; omega⟩
theorem OfJ.addC (h : OfJ B ms a b none w) (hB : B ≤ w.heap.size) : OfJ B ms a b (some w.heap.size) (w.alloc (.cells #[.int .i64 0, .slice none 0 0, .int .i64 0, .int .i64 0, .int .i64 0, .slice none 0 0, .slice none 0 0, .int .i64 0, .slice none 0 0] 102)) :=
  ⟨fun q e => ⟨(h.fa q e).1, World.rowIs.alloc (h.fa q e).2 _⟩, fun q e => ⟨(h.fb q e).1, World.rowIs.alloc (h.fb q e).2 _⟩, fun q e => by injection e with e; subst e; exact ⟨hB, Blk.new _ _ _⟩,
   h.ab, fun x y e1 e2 => by injection e2 with e2; have := World.rowIs.lt (h.fa x e1).2; omega, fun x y e1 e2 => by injection e2 with e2; have := World.rowIs.lt (h.fb x e1).2; omega⟩
end
/-- the blocks of a table -/
structure OfK (B : Nat) (N : Int) (A : Option Addr) (k c : Nat) (root l0 l1 : Int) (M : Option Addr) (ms : List Mv) (cm q gS gL : Nat) (ld : Int) (w : World) : Prop where
  q0 : B ≤ q
  s0 : B ≤ gS
  d0 : B ≤ gL
  blk : Blk w q 102 #[.int .i64 N, .slice A k c, .int .i64 root, .int .i64 l0, .int .i64 l1, .slice M ms.length cm, .slice (some ⟨gS, 0, none⟩) ms.length ms.length, .int .i64 ld, .slice (some ⟨gL, 0, none⟩) ms.length ms.length]
  rs : Row w gS ms.length (stF ms)
  qs : gS ≠ q
  ql : gL ≠ q
  sl : gS ≠ gL
theorem OfK.below {B : Nat} {N : Int} {A : Option Addr} {k c : Nat} {root l0 l1 : Int} {M : Option Addr} {ms : List Mv} {cm q gS gL : Nat} {ld : Int} {w w' : World} (h : OfK B N A k c root l0 l1 M ms cm q gS gL ld w) (hb : Below w.heap.size w w') : OfK B N A k c root l0 l1 M ms cm q gS gL ld w' :=
  { h with blk := h.blk.below hb h.blk.lt, rs := rowIs_new h.rs hb }
theorem OfK.set {B : Nat} {N : Int} {A : Option Addr} {k c : Nat} {root l0 l1 : Int} {M : Option Addr} {ms : List Mv} {cm q gS gL : Nat} {ld : Int} {w : World} (h : OfK B N A k c root l0 l1 M ms cm q gS gL ld w) (i : Nat) (v : Value) : OfK B N A k c root l0 l1 M ms cm q gS gL ld (w.setCell ⟨gL, i, none⟩ v) :=
  { h with blk := h.blk.far (p := ⟨gL, i, none⟩) (fun e => h.ql e.symm) v, rs := World.rowIs.setOther h.rs (a := ⟨gL, i, none⟩) h.sl v }
theorem OfK.lead {B : Nat} {N : Int} {A : Option Addr} {k c : Nat} {root l0 l1 : Int} {M : Option Addr} {ms : List Mv} {cm q gS gL : Nat} {ld : Int} {w : World} (h : OfK B N A k c root l0 l1 M ms cm q gS gL ld w) (x : Int) : OfK B N A k c root l0 l1 M ms cm q gS gL x (w.setCell ⟨q, 7, none⟩ (.int .i64 x)) :=
  { h with blk := h.blk.set_ 7 _, rs := World.rowIs.setOther h.rs (a := ⟨q, 7, none⟩) h.qs _ }
theorem OfJ.store {B : Nat} {ms : List Mv} {q gS gL : Nat} {w W : World} {N : Int} {A : Option Addr} {k c : Nat} {root l0 l1 : Int} {M : Option Addr} {cm : Nat} (h : OfJ B ms (some gS) (some gL) (some q) w) (hS : Below B W w) :
    OfK B N A k c root l0 l1 M ms cm q gS gL 1 (st9 w q (.int .i64 N) (.slice A k c) (.int .i64 root) (.int .i64 l0) (.int .i64 l1) (.slice M ms.length cm) (.slice (some ⟨gS, 0, none⟩) ms.length ms.length) (.int .i64 1) (.slice (some ⟨gL, 0, none⟩) ms.length ms.length)) ∧ RowB (st9 w q (.int .i64 N) (.slice A k c) (.int .i64 root) (.int .i64 l0) (.int .i64 l1) (.slice M ms.length cm) (.slice (some ⟨gS, 0, none⟩) ms.length ms.length) (.int .i64 1) (.slice (some ⟨gL, 0, none⟩) ms.length ms.length)) gL ms.length (fun _ => false) ∧ Below B W (st9 w q (.int .i64 N) (.slice A k c) (.int .i64 root) (.int .i64 l0) (.int .i64 l1) (.slice M ms.length cm) (.slice (some ⟨gS, 0, none⟩) ms.length ms.length) (.int .i64 1) (.slice (some ⟨gL, 0, none⟩) ms.length ms.length)) := by
  obtain ⟨a1, a2⟩ := h.fa gS rfl
  obtain ⟨b1, b2⟩ := h.fb gL rfl
  obtain ⟨c1, c2⟩ := h.fc q rfl
  have h1 := h.ac gS q rfl rfl; have h2 := h.bc gL q rfl rfl
  exact ⟨⟨c1, a1, b1, st9_blk c2 .., st9_row a2 h1 .., h1, h2, h.ab gS gL rfl rfl⟩, st9_row b2 h2 .., st9_below hS c1 ..⟩
/-- the call returns the table of the dialogue -/
def RetTb (N : Int) (A : Option Addr) (k c : Nat) (root l0 l1 : Int) (M : Option Addr) (ms : List Mv) (cm : Nat) (w : World) : Ending → World → Prop := fun e w' => ∃ gS gL, e = .returned (.agg #[.int .i64 N, .slice A k c, .int .i64 root, .int .i64 l0, .int .i64 l1, .slice M ms.length cm, .slice (some ⟨gS, 0, none⟩) ms.length ms.length, .int .i64 (leadr ms), .slice (some ⟨gL, 0, none⟩) ms.length ms.length]) ∧ Row w' gS ms.length (stF ms) ∧ RowB w' gL ms.length (ldF ms) ∧ Below w.heap.size w w'
set_option maxRecDepth 100000 in
set_option maxHeartbeats 8000000 in
theorem of_any (N : Int) (A : Option Addr) (k c : Nat) (root l0 l1 : Int) (M : Option Addr) (ms : List Mv) (cm : Nat) (w : World) (hr : RM w M ms) (hm : OkM ms) (hl : ms.length ≤ 1000) :
    Calls Try.prog 44 #[.agg #[.int .i64 N, .slice A k c, .int .i64 root, .int .i64 l0, .int .i64 l1, .slice M ms.length cm]] w (RetTb N A k c root l0 l1 M ms cm w) := by
  have hmk := run_make_row' (P := Try.prog) 100 4 (.bool false) 1 Try.underlying100 info_bool rfl .i64 .i64 ms.length (by omega) (by omega)
  have HM := Lib.hid hm
  have Hl := Lib.hid hl
  have hpos := hm.pos
  clear hm
  have Hmk := Lib.hid hmk
  clear hmk
  go_enter Try.func44, Try.ntmps44
  go_upto_region 1 with fail
  obtain ⟨W1, hW, kd, kt, hb0, hs0⟩ := boxed2A w 34 102 #[.int .i64 N, .slice A k c, .int .i64 root, .int .i64 l0, .int .i64 l1, .slice M ms.length cm] #[.int .i64 0, .slice none 0 0, .int .i64 0, .int .i64 0, .int .i64 0, .slice none 0 0, .slice none 0 0, .int .i64 0, .slice none 0 0]
  rw [hW]
  clear hW
  have hrm := hr.below hb0
  have Hr := Lib.hid hr
  clear hr
  go_cut [3] (fun s wx => ∃ q gS gL, s = Value.pointer (some ⟨q, 0, none⟩) ∧ OfK W1.heap.size N A k c root l0 l1 M ms cm q gS gL 1 wx ∧ RowB wx gL ms.length (fun _ => false) ∧ Below W1.heap.size W1 wx)
  case first =>
    refine wp_region_tree [2, 6, 8, 9] (fun w' => Below W1.heap.size W1 w') (fun w' => OfJ W1.heap.size ms none none none w') 10 [0, 1, 2, 3, 4, 5, 6, 7, 8, 9] (by rfl) (by decide) (by kernel_rfl) (by kernel_rfl) (Below.refl _ _).drew OfJ.start ?_
    refine TxtT.pure 0 (by rfl) (by rw [List.getElem?_toArray]; rfl) (by rfl) (by as_aux_lemma => kernel_rfl) (by rfl) ?_; apply Exists.intro; refine ⟨fun w1 hS1 => ?_, ?_⟩; (focus ((obtain ⟨g0, g1, g2, g3, g4, g5⟩ := dgC (kd.below hS1 kd.lt)); go_simp; with_reducible rfl))
    rw [show List.erase [0, 1, 2, 3, 4, 5, 6, 7, 8, 9] 0 = [1, 2, 3, 4, 5, 6, 7, 8, 9] from rfl]; simp only [Act.put, List.setIfInBounds_toArray, List.set_cons_zero, List.set_cons_succ]
    refine TxtT.pure 1 (by rfl) (by rw [List.getElem?_toArray]; rfl) (by rfl) (by as_aux_lemma => kernel_rfl) (by rfl) ?_; apply Exists.intro; refine ⟨fun w1 hS1 => ?_, ?_⟩; (focus ((obtain ⟨g0, g1, g2, g3, g4, g5⟩ := dgC (kd.below hS1 kd.lt)); go_simp; with_reducible rfl))
    rw [show List.erase [1, 2, 3, 4, 5, 6, 7, 8, 9] 1 = [2, 3, 4, 5, 6, 7, 8, 9] from rfl]; simp only [Act.put, List.setIfInBounds_toArray, List.set_cons_zero, List.set_cons_succ]
    refine TxtT.pure 3 (by rfl) (by rw [List.getElem?_toArray]; rfl) (by rfl) (by as_aux_lemma => kernel_rfl) (by rfl) ?_; apply Exists.intro; refine ⟨fun w1 hS1 => ?_, ?_⟩; (focus (skip; go_simp; with_reducible rfl))
    rw [show List.erase [2, 3, 4, 5, 6, 7, 8, 9] 3 = [2, 4, 5, 6, 7, 8, 9] from rfl]; simp only [Act.put, List.setIfInBounds_toArray, List.set_cons_zero, List.set_cons_succ]
    refine TxtT.pure 4 (by rfl) (by rw [List.getElem?_toArray]; rfl) (by rfl) (by as_aux_lemma => kernel_rfl) (by rfl) ?_; apply Exists.intro; refine ⟨fun w1 hS1 => ?_, ?_⟩; (focus ((obtain ⟨g0, g1, g2, g3, g4, g5⟩ := dgC (kd.below hS1 kd.lt)); go_simp; with_reducible rfl))
    rw [show List.erase [2, 4, 5, 6, 7, 8, 9] 4 = [2, 5, 6, 7, 8, 9] from rfl]; simp only [Act.put, List.setIfInBounds_toArray, List.set_cons_zero, List.set_cons_succ]
    refine TxtT.pure 5 (by rfl) (by rw [List.getElem?_toArray]; rfl) (by rfl) (by as_aux_lemma => kernel_rfl) (by rfl) ?_; apply Exists.intro; refine ⟨fun w1 hS1 => ?_, ?_⟩; (focus (skip; go_simp; with_reducible rfl))
    rw [show List.erase [2, 5, 6, 7, 8, 9] 5 = [2, 6, 7, 8, 9] from rfl]; simp only [Act.put, List.setIfInBounds_toArray, List.set_cons_zero, List.set_cons_succ]
    refine TxtT.three 2 6 8 (by as_aux_lemma => kernel_rfl) (by rw [List.getElem?_toArray]; rfl) (by rw [List.getElem?_toArray]; rfl) (by rw [List.getElem?_toArray]; rfl) (by rfl) (by rfl) (by rfl) (by rfl) (by rfl) (by rfl) (fun v => ∃ g, v = Value.slice (some ⟨g, 0, none⟩) ms.length ms.length) (fun v w' => ∃ g, v = Value.slice (some ⟨g, 0, none⟩) ms.length ms.length ∧ OfJ W1.heap.size ms (some g) none none w') (fun v => ∃ g, v = Value.slice (some ⟨g, 0, none⟩) ms.length ms.length) (fun v w' => ∃ g, v = Value.slice (some ⟨g, 0, none⟩) ms.length ms.length ∧ OfJ W1.heap.size ms none (some g) none w') (fun v => ∃ g, v = Value.pointer (some ⟨g, 0, none⟩)) (fun v w' => ∃ g, v = Value.pointer (some ⟨g, 0, none⟩) ∧ OfJ W1.heap.size ms none none (some g) w') (fun w1 hS1 hJ1 => ?_) (fun w1 hS1 hJ1 => ?_) (fun w1 hS1 hJ1 => ?_) ?_ ?_ ?_
    · refine Eff.call (f := 59) (args := #[.agg #[.int .i64 N, .slice A k c, .int .i64 root, .int .i64 l0, .int .i64 l1, .slice M ms.length cm]]) (by go_simp) ((status_any N A k c root l0 l1 M ms cm w1 (hrm.below hS1) HM.out Hl.out).mono ?_)
      rintro e w' ⟨g, rfl, hg, hrow, hb3⟩
      exact ⟨_, rfl, hS1.trans (hb3.mono hS1.size), ⟨g, rfl⟩, g, rfl, OfJ.addA hJ1 hS1.size hb3 hg hrow⟩
    · have hmk := Hmk.out
      exact Eff.value (w' := w1.alloc (.cells (madeCells #[.bool false] ms.length) 4)) (v := .slice (some ⟨w1.heap.size, 0, none⟩) ms.length ms.length) (by go_simp) ⟨hS1.trans ((newB w1 _).mono hS1.size), ⟨_, rfl⟩, _, rfl, OfJ.addB hJ1 hS1.size⟩
    · exact Eff.value (w' := w1.alloc (.cells #[.int .i64 0, .slice none 0 0, .int .i64 0, .int .i64 0, .int .i64 0, .slice none 0 0, .slice none 0 0, .int .i64 0, .slice none 0 0] 102)) (v := .pointer (some ⟨w1.heap.size, 0, none⟩)) (by go_simp) ⟨hS1.trans ((newB w1 _).mono hS1.size), ⟨_, rfl⟩, _, rfl, OfJ.addC hJ1 hS1.size⟩
    ·
      rintro _ ⟨gS, rfl⟩
      rw [show List.erase [2, 6, 7, 8, 9] 2 = [6, 7, 8, 9] from rfl]; simp only [Act.put, List.setIfInBounds_toArray, List.set_cons_zero, List.set_cons_succ]
      refine TxtT.weakJ (J2 := (fun w' => OfJ W1.heap.size ms (some gS) none none w')) (fun w1 h => by obtain ⟨g, hg, h⟩ := h; injection hg with hg; injection hg with hg; injection hg with hg _ _; subst hg; exact h) ?_
      refine TxtT.two 6 8 (by as_aux_lemma => kernel_rfl) (by rw [List.getElem?_toArray]; rfl) (by rw [List.getElem?_toArray]; rfl) (by rfl) (by rfl) (by rfl) (by rfl) (fun v => ∃ g, v = Value.slice (some ⟨g, 0, none⟩) ms.length ms.length) (fun v w' => ∃ g, v = Value.slice (some ⟨g, 0, none⟩) ms.length ms.length ∧ OfJ W1.heap.size ms (some gS) (some g) none w') (fun v => ∃ g, v = Value.pointer (some ⟨g, 0, none⟩)) (fun v w' => ∃ g, v = Value.pointer (some ⟨g, 0, none⟩) ∧ OfJ W1.heap.size ms (some gS) none (some g) w') (fun w1 hS1 hJ1 => ?_) (fun w1 hS1 hJ1 => ?_) ?_ ?_
      · have hmk := Hmk.out
        exact Eff.value (w' := w1.alloc (.cells (madeCells #[.bool false] ms.length) 4)) (v := .slice (some ⟨w1.heap.size, 0, none⟩) ms.length ms.length) (by go_simp) ⟨hS1.trans ((newB w1 _).mono hS1.size), ⟨_, rfl⟩, _, rfl, OfJ.addB hJ1 hS1.size⟩
      · exact Eff.value (w' := w1.alloc (.cells #[.int .i64 0, .slice none 0 0, .int .i64 0, .int .i64 0, .int .i64 0, .slice none 0 0, .slice none 0 0, .int .i64 0, .slice none 0 0] 102)) (v := .pointer (some ⟨w1.heap.size, 0, none⟩)) (by go_simp) ⟨hS1.trans ((newB w1 _).mono hS1.size), ⟨_, rfl⟩, _, rfl, OfJ.addC hJ1 hS1.size⟩
      ·
        rintro _ ⟨gL, rfl⟩
        rw [show List.erase [6, 7, 8, 9] 6 = [7, 8, 9] from rfl]; simp only [Act.put, List.setIfInBounds_toArray, List.set_cons_zero, List.set_cons_succ]
        refine TxtT.weakJ (J2 := (fun w' => OfJ W1.heap.size ms (some gS) (some gL) none w')) (fun w1 h => by obtain ⟨g, hg, h⟩ := h; injection hg with hg; injection hg with hg; injection hg with hg _ _; subst hg; exact h) ?_
        refine TxtT.pure 7 (by rfl) (by rw [List.getElem?_toArray]; rfl) (by rfl) (by as_aux_lemma => kernel_rfl) (by rfl) ?_; apply Exists.intro; refine ⟨fun w1 hS1 => ?_, ?_⟩; (focus (skip; go_simp; with_reducible rfl))
        rw [show List.erase [7, 8, 9] 7 = [8, 9] from rfl]; simp only [Act.put, List.setIfInBounds_toArray, List.set_cons_zero, List.set_cons_succ]
        refine TxtT.one 8 (by as_aux_lemma => kernel_rfl) (by rw [List.getElem?_toArray]; rfl) (by rfl) (by rfl) (fun v => ∃ g, v = Value.pointer (some ⟨g, 0, none⟩)) (fun v w' => ∃ g, v = Value.pointer (some ⟨g, 0, none⟩) ∧ OfJ W1.heap.size ms (some gS) (some gL) (some g) w') (fun w1 hS1 hJ1 => ?_) ?_
        · exact Eff.value (w' := w1.alloc (.cells #[.int .i64 0, .slice none 0 0, .int .i64 0, .int .i64 0, .int .i64 0, .slice none 0 0, .slice none 0 0, .int .i64 0, .slice none 0 0] 102)) (v := .pointer (some ⟨w1.heap.size, 0, none⟩)) (by go_simp) ⟨hS1.trans ((newB w1 _).mono hS1.size), ⟨_, rfl⟩, _, rfl, OfJ.addC hJ1 hS1.size⟩
        rintro _ ⟨q, rfl⟩
        rw [show List.erase [8, 9] 8 = [9] from rfl]; simp only [Act.put, List.setIfInBounds_toArray, List.set_cons_zero, List.set_cons_succ]
        refine TxtT.weakJ (J2 := (fun w' => OfJ W1.heap.size ms (some gS) (some gL) (some q) w')) (fun w1 h => by obtain ⟨g, hg, h⟩ := h; injection hg with hg; injection hg with hg; injection hg with hg _ _; subst hg; exact h) ?_
        refine TxtT.one 9 (by as_aux_lemma => kernel_rfl) (by rw [List.getElem?_toArray]; rfl) (by rfl) (by rfl) (fun v => v = undef) (fun _ w' => OfK W1.heap.size N A k c root l0 l1 M ms cm q gS gL 1 w' ∧ RowB w' gL ms.length (fun _ => false)) (fun w1 hS1 hJ1 => ?_) ?_
        · have hst := OfJ.store (N := N) (A := A) (k := k) (c := c) (root := root) (l0 := l0) (l1 := l1) (M := M) (cm := cm) hJ1 hS1
          obtain ⟨z0, z1, z2, z3, z4, z5, z6, z7, z8⟩ := tbC (hJ1.fc q rfl).2
          obtain ⟨y0, y1, y2, y3, y4, y5, y6, y7, y8⟩ := tbF (hJ1.fc q rfl).2
          exact Eff.skip (by go_simp; rfl) ⟨hst.2.2, rfl, hst.1, hst.2.1⟩
        rintro _ rfl
        rw [show List.erase [9] 9 = [] from rfl]; simp only [Act.put]
        refine ⟨rfl, fun w1 hS1 hJ1 => ?_⟩
        go_wp2_with fail
        go_meet
        exact ⟨q, gS, gL, rfl, hJ1.1, hJ1.2, hS1⟩
      ·
        rintro _ ⟨q, rfl⟩
        rw [show List.erase [6, 7, 8, 9] 8 = [6, 7, 9] from rfl]; simp only [Act.put, List.setIfInBounds_toArray, List.set_cons_zero, List.set_cons_succ]
        refine TxtT.weakJ (J2 := (fun w' => OfJ W1.heap.size ms (some gS) none (some q) w')) (fun w1 h => by obtain ⟨g, hg, h⟩ := h; injection hg with hg; injection hg with hg; injection hg with hg _ _; subst hg; exact h) ?_
        refine TxtT.one 6 (by as_aux_lemma => kernel_rfl) (by rw [List.getElem?_toArray]; rfl) (by rfl) (by rfl) (fun v => ∃ g, v = Value.slice (some ⟨g, 0, none⟩) ms.length ms.length) (fun v w' => ∃ g, v = Value.slice (some ⟨g, 0, none⟩) ms.length ms.length ∧ OfJ W1.heap.size ms (some gS) (some g) (some q) w') (fun w1 hS1 hJ1 => ?_) ?_
        · have hmk := Hmk.out
          exact Eff.value (w' := w1.alloc (.cells (madeCells #[.bool false] ms.length) 4)) (v := .slice (some ⟨w1.heap.size, 0, none⟩) ms.length ms.length) (by go_simp) ⟨hS1.trans ((newB w1 _).mono hS1.size), ⟨_, rfl⟩, _, rfl, OfJ.addB hJ1 hS1.size⟩
        rintro _ ⟨gL, rfl⟩
        rw [show List.erase [6, 7, 9] 6 = [7, 9] from rfl]; simp only [Act.put, List.setIfInBounds_toArray, List.set_cons_zero, List.set_cons_succ]
        refine TxtT.weakJ (J2 := (fun w' => OfJ W1.heap.size ms (some gS) (some gL) (some q) w')) (fun w1 h => by obtain ⟨g, hg, h⟩ := h; injection hg with hg; injection hg with hg; injection hg with hg _ _; subst hg; exact h) ?_
        refine TxtT.pure 7 (by rfl) (by rw [List.getElem?_toArray]; rfl) (by rfl) (by as_aux_lemma => kernel_rfl) (by rfl) ?_; apply Exists.intro; refine ⟨fun w1 hS1 => ?_, ?_⟩; (focus (skip; go_simp; with_reducible rfl))
        rw [show List.erase [7, 9] 7 = [9] from rfl]; simp only [Act.put, List.setIfInBounds_toArray, List.set_cons_zero, List.set_cons_succ]
        refine TxtT.one 9 (by as_aux_lemma => kernel_rfl) (by rw [List.getElem?_toArray]; rfl) (by rfl) (by rfl) (fun v => v = undef) (fun _ w' => OfK W1.heap.size N A k c root l0 l1 M ms cm q gS gL 1 w' ∧ RowB w' gL ms.length (fun _ => false)) (fun w1 hS1 hJ1 => ?_) ?_
        · have hst := OfJ.store (N := N) (A := A) (k := k) (c := c) (root := root) (l0 := l0) (l1 := l1) (M := M) (cm := cm) hJ1 hS1
          obtain ⟨z0, z1, z2, z3, z4, z5, z6, z7, z8⟩ := tbC (hJ1.fc q rfl).2
          obtain ⟨y0, y1, y2, y3, y4, y5, y6, y7, y8⟩ := tbF (hJ1.fc q rfl).2
          exact Eff.skip (by go_simp; rfl) ⟨hst.2.2, rfl, hst.1, hst.2.1⟩
        rintro _ rfl
        rw [show List.erase [9] 9 = [] from rfl]; simp only [Act.put]
        refine ⟨rfl, fun w1 hS1 hJ1 => ?_⟩
        go_wp2_with fail
        go_meet
        exact ⟨q, gS, gL, rfl, hJ1.1, hJ1.2, hS1⟩
    ·
      rintro _ ⟨gL, rfl⟩
      rw [show List.erase [2, 6, 7, 8, 9] 6 = [2, 7, 8, 9] from rfl]; simp only [Act.put, List.setIfInBounds_toArray, List.set_cons_zero, List.set_cons_succ]
      refine TxtT.weakJ (J2 := (fun w' => OfJ W1.heap.size ms none (some gL) none w')) (fun w1 h => by obtain ⟨g, hg, h⟩ := h; injection hg with hg; injection hg with hg; injection hg with hg _ _; subst hg; exact h) ?_
      refine TxtT.two 2 8 (by as_aux_lemma => kernel_rfl) (by rw [List.getElem?_toArray]; rfl) (by rw [List.getElem?_toArray]; rfl) (by rfl) (by rfl) (by rfl) (by rfl) (fun v => ∃ g, v = Value.slice (some ⟨g, 0, none⟩) ms.length ms.length) (fun v w' => ∃ g, v = Value.slice (some ⟨g, 0, none⟩) ms.length ms.length ∧ OfJ W1.heap.size ms (some g) (some gL) none w') (fun v => ∃ g, v = Value.pointer (some ⟨g, 0, none⟩)) (fun v w' => ∃ g, v = Value.pointer (some ⟨g, 0, none⟩) ∧ OfJ W1.heap.size ms none (some gL) (some g) w') (fun w1 hS1 hJ1 => ?_) (fun w1 hS1 hJ1 => ?_) ?_ ?_
      · refine Eff.call (f := 59) (args := #[.agg #[.int .i64 N, .slice A k c, .int .i64 root, .int .i64 l0, .int .i64 l1, .slice M ms.length cm]]) (by go_simp) ((status_any N A k c root l0 l1 M ms cm w1 (hrm.below hS1) HM.out Hl.out).mono ?_)
        rintro e w' ⟨g, rfl, hg, hrow, hb3⟩
        exact ⟨_, rfl, hS1.trans (hb3.mono hS1.size), ⟨g, rfl⟩, g, rfl, OfJ.addA hJ1 hS1.size hb3 hg hrow⟩
      · exact Eff.value (w' := w1.alloc (.cells #[.int .i64 0, .slice none 0 0, .int .i64 0, .int .i64 0, .int .i64 0, .slice none 0 0, .slice none 0 0, .int .i64 0, .slice none 0 0] 102)) (v := .pointer (some ⟨w1.heap.size, 0, none⟩)) (by go_simp) ⟨hS1.trans ((newB w1 _).mono hS1.size), ⟨_, rfl⟩, _, rfl, OfJ.addC hJ1 hS1.size⟩
      ·
        rintro _ ⟨gS, rfl⟩
        rw [show List.erase [2, 7, 8, 9] 2 = [7, 8, 9] from rfl]; simp only [Act.put, List.setIfInBounds_toArray, List.set_cons_zero, List.set_cons_succ]
        refine TxtT.weakJ (J2 := (fun w' => OfJ W1.heap.size ms (some gS) (some gL) none w')) (fun w1 h => by obtain ⟨g, hg, h⟩ := h; injection hg with hg; injection hg with hg; injection hg with hg _ _; subst hg; exact h) ?_
        refine TxtT.pure 7 (by rfl) (by rw [List.getElem?_toArray]; rfl) (by rfl) (by as_aux_lemma => kernel_rfl) (by rfl) ?_; apply Exists.intro; refine ⟨fun w1 hS1 => ?_, ?_⟩; (focus (skip; go_simp; with_reducible rfl))
        rw [show List.erase [7, 8, 9] 7 = [8, 9] from rfl]; simp only [Act.put, List.setIfInBounds_toArray, List.set_cons_zero, List.set_cons_succ]
        refine TxtT.one 8 (by as_aux_lemma => kernel_rfl) (by rw [List.getElem?_toArray]; rfl) (by rfl) (by rfl) (fun v => ∃ g, v = Value.pointer (some ⟨g, 0, none⟩)) (fun v w' => ∃ g, v = Value.pointer (some ⟨g, 0, none⟩) ∧ OfJ W1.heap.size ms (some gS) (some gL) (some g) w') (fun w1 hS1 hJ1 => ?_) ?_
        · exact Eff.value (w' := w1.alloc (.cells #[.int .i64 0, .slice none 0 0, .int .i64 0, .int .i64 0, .int .i64 0, .slice none 0 0, .slice none 0 0, .int .i64 0, .slice none 0 0] 102)) (v := .pointer (some ⟨w1.heap.size, 0, none⟩)) (by go_simp) ⟨hS1.trans ((newB w1 _).mono hS1.size), ⟨_, rfl⟩, _, rfl, OfJ.addC hJ1 hS1.size⟩
        rintro _ ⟨q, rfl⟩
        rw [show List.erase [8, 9] 8 = [9] from rfl]; simp only [Act.put, List.setIfInBounds_toArray, List.set_cons_zero, List.set_cons_succ]
        refine TxtT.weakJ (J2 := (fun w' => OfJ W1.heap.size ms (some gS) (some gL) (some q) w')) (fun w1 h => by obtain ⟨g, hg, h⟩ := h; injection hg with hg; injection hg with hg; injection hg with hg _ _; subst hg; exact h) ?_
        refine TxtT.one 9 (by as_aux_lemma => kernel_rfl) (by rw [List.getElem?_toArray]; rfl) (by rfl) (by rfl) (fun v => v = undef) (fun _ w' => OfK W1.heap.size N A k c root l0 l1 M ms cm q gS gL 1 w' ∧ RowB w' gL ms.length (fun _ => false)) (fun w1 hS1 hJ1 => ?_) ?_
        · have hst := OfJ.store (N := N) (A := A) (k := k) (c := c) (root := root) (l0 := l0) (l1 := l1) (M := M) (cm := cm) hJ1 hS1
          obtain ⟨z0, z1, z2, z3, z4, z5, z6, z7, z8⟩ := tbC (hJ1.fc q rfl).2
          obtain ⟨y0, y1, y2, y3, y4, y5, y6, y7, y8⟩ := tbF (hJ1.fc q rfl).2
          exact Eff.skip (by go_simp; rfl) ⟨hst.2.2, rfl, hst.1, hst.2.1⟩
        rintro _ rfl
        rw [show List.erase [9] 9 = [] from rfl]; simp only [Act.put]
        refine ⟨rfl, fun w1 hS1 hJ1 => ?_⟩
        go_wp2_with fail
        go_meet
        exact ⟨q, gS, gL, rfl, hJ1.1, hJ1.2, hS1⟩
      ·
        rintro _ ⟨q, rfl⟩
        rw [show List.erase [2, 7, 8, 9] 8 = [2, 7, 9] from rfl]; simp only [Act.put, List.setIfInBounds_toArray, List.set_cons_zero, List.set_cons_succ]
        refine TxtT.weakJ (J2 := (fun w' => OfJ W1.heap.size ms none (some gL) (some q) w')) (fun w1 h => by obtain ⟨g, hg, h⟩ := h; injection hg with hg; injection hg with hg; injection hg with hg _ _; subst hg; exact h) ?_
        refine TxtT.one 2 (by as_aux_lemma => kernel_rfl) (by rw [List.getElem?_toArray]; rfl) (by rfl) (by rfl) (fun v => ∃ g, v = Value.slice (some ⟨g, 0, none⟩) ms.length ms.length) (fun v w' => ∃ g, v = Value.slice (some ⟨g, 0, none⟩) ms.length ms.length ∧ OfJ W1.heap.size ms (some g) (some gL) (some q) w') (fun w1 hS1 hJ1 => ?_) ?_
        · refine Eff.call (f := 59) (args := #[.agg #[.int .i64 N, .slice A k c, .int .i64 root, .int .i64 l0, .int .i64 l1, .slice M ms.length cm]]) (by go_simp) ((status_any N A k c root l0 l1 M ms cm w1 (hrm.below hS1) HM.out Hl.out).mono ?_)
          rintro e w' ⟨g, rfl, hg, hrow, hb3⟩
          exact ⟨_, rfl, hS1.trans (hb3.mono hS1.size), ⟨g, rfl⟩, g, rfl, OfJ.addA hJ1 hS1.size hb3 hg hrow⟩
        rintro _ ⟨gS, rfl⟩
        rw [show List.erase [2, 7, 9] 2 = [7, 9] from rfl]; simp only [Act.put, List.setIfInBounds_toArray, List.set_cons_zero, List.set_cons_succ]
        refine TxtT.weakJ (J2 := (fun w' => OfJ W1.heap.size ms (some gS) (some gL) (some q) w')) (fun w1 h => by obtain ⟨g, hg, h⟩ := h; injection hg with hg; injection hg with hg; injection hg with hg _ _; subst hg; exact h) ?_
        refine TxtT.pure 7 (by rfl) (by rw [List.getElem?_toArray]; rfl) (by rfl) (by as_aux_lemma => kernel_rfl) (by rfl) ?_; apply Exists.intro; refine ⟨fun w1 hS1 => ?_, ?_⟩; (focus (skip; go_simp; with_reducible rfl))
        rw [show List.erase [7, 9] 7 = [9] from rfl]; simp only [Act.put, List.setIfInBounds_toArray, List.set_cons_zero, List.set_cons_succ]
        refine TxtT.one 9 (by as_aux_lemma => kernel_rfl) (by rw [List.getElem?_toArray]; rfl) (by rfl) (by rfl) (fun v => v = undef) (fun _ w' => OfK W1.heap.size N A k c root l0 l1 M ms cm q gS gL 1 w' ∧ RowB w' gL ms.length (fun _ => false)) (fun w1 hS1 hJ1 => ?_) ?_
        · have hst := OfJ.store (N := N) (A := A) (k := k) (c := c) (root := root) (l0 := l0) (l1 := l1) (M := M) (cm := cm) hJ1 hS1
          obtain ⟨z0, z1, z2, z3, z4, z5, z6, z7, z8⟩ := tbC (hJ1.fc q rfl).2
          obtain ⟨y0, y1, y2, y3, y4, y5, y6, y7, y8⟩ := tbF (hJ1.fc q rfl).2
          exact Eff.skip (by go_simp; rfl) ⟨hst.2.2, rfl, hst.1, hst.2.1⟩
        rintro _ rfl
        rw [show List.erase [9] 9 = [] from rfl]; simp only [Act.put]
        refine ⟨rfl, fun w1 hS1 hJ1 => ?_⟩
        go_wp2_with fail
        go_meet
        exact ⟨q, gS, gL, rfl, hJ1.1, hJ1.2, hS1⟩
    ·
      rintro _ ⟨q, rfl⟩
      rw [show List.erase [2, 6, 7, 8, 9] 8 = [2, 6, 7, 9] from rfl]; simp only [Act.put, List.setIfInBounds_toArray, List.set_cons_zero, List.set_cons_succ]
      refine TxtT.weakJ (J2 := (fun w' => OfJ W1.heap.size ms none none (some q) w')) (fun w1 h => by obtain ⟨g, hg, h⟩ := h; injection hg with hg; injection hg with hg; injection hg with hg _ _; subst hg; exact h) ?_
      refine TxtT.two 2 6 (by as_aux_lemma => kernel_rfl) (by rw [List.getElem?_toArray]; rfl) (by rw [List.getElem?_toArray]; rfl) (by rfl) (by rfl) (by rfl) (by rfl) (fun v => ∃ g, v = Value.slice (some ⟨g, 0, none⟩) ms.length ms.length) (fun v w' => ∃ g, v = Value.slice (some ⟨g, 0, none⟩) ms.length ms.length ∧ OfJ W1.heap.size ms (some g) none (some q) w') (fun v => ∃ g, v = Value.slice (some ⟨g, 0, none⟩) ms.length ms.length) (fun v w' => ∃ g, v = Value.slice (some ⟨g, 0, none⟩) ms.length ms.length ∧ OfJ W1.heap.size ms none (some g) (some q) w') (fun w1 hS1 hJ1 => ?_) (fun w1 hS1 hJ1 => ?_) ?_ ?_
      · refine Eff.call (f := 59) (args := #[.agg #[.int .i64 N, .slice A k c, .int .i64 root, .int .i64 l0, .int .i64 l1, .slice M ms.length cm]]) (by go_simp) ((status_any N A k c root l0 l1 M ms cm w1 (hrm.below hS1) HM.out Hl.out).mono ?_)
        rintro e w' ⟨g, rfl, hg, hrow, hb3⟩
        exact ⟨_, rfl, hS1.trans (hb3.mono hS1.size), ⟨g, rfl⟩, g, rfl, OfJ.addA hJ1 hS1.size hb3 hg hrow⟩
      · have hmk := Hmk.out
        exact Eff.value (w' := w1.alloc (.cells (madeCells #[.bool false] ms.length) 4)) (v := .slice (some ⟨w1.heap.size, 0, none⟩) ms.length ms.length) (by go_simp) ⟨hS1.trans ((newB w1 _).mono hS1.size), ⟨_, rfl⟩, _, rfl, OfJ.addB hJ1 hS1.size⟩
      ·
        rintro _ ⟨gS, rfl⟩
        rw [show List.erase [2, 6, 7, 9] 2 = [6, 7, 9] from rfl]; simp only [Act.put, List.setIfInBounds_toArray, List.set_cons_zero, List.set_cons_succ]
        refine TxtT.weakJ (J2 := (fun w' => OfJ W1.heap.size ms (some gS) none (some q) w')) (fun w1 h => by obtain ⟨g, hg, h⟩ := h; injection hg with hg; injection hg with hg; injection hg with hg _ _; subst hg; exact h) ?_
        refine TxtT.one 6 (by as_aux_lemma => kernel_rfl) (by rw [List.getElem?_toArray]; rfl) (by rfl) (by rfl) (fun v => ∃ g, v = Value.slice (some ⟨g, 0, none⟩) ms.length ms.length) (fun v w' => ∃ g, v = Value.slice (some ⟨g, 0, none⟩) ms.length ms.length ∧ OfJ W1.heap.size ms (some gS) (some g) (some q) w') (fun w1 hS1 hJ1 => ?_) ?_
        · have hmk := Hmk.out
          exact Eff.value (w' := w1.alloc (.cells (madeCells #[.bool false] ms.length) 4)) (v := .slice (some ⟨w1.heap.size, 0, none⟩) ms.length ms.length) (by go_simp) ⟨hS1.trans ((newB w1 _).mono hS1.size), ⟨_, rfl⟩, _, rfl, OfJ.addB hJ1 hS1.size⟩
        rintro _ ⟨gL, rfl⟩
        rw [show List.erase [6, 7, 9] 6 = [7, 9] from rfl]; simp only [Act.put, List.setIfInBounds_toArray, List.set_cons_zero, List.set_cons_succ]
        refine TxtT.weakJ (J2 := (fun w' => OfJ W1.heap.size ms (some gS) (some gL) (some q) w')) (fun w1 h => by obtain ⟨g, hg, h⟩ := h; injection hg with hg; injection hg with hg; injection hg with hg _ _; subst hg; exact h) ?_
        refine TxtT.pure 7 (by rfl) (by rw [List.getElem?_toArray]; rfl) (by rfl) (by as_aux_lemma => kernel_rfl) (by rfl) ?_; apply Exists.intro; refine ⟨fun w1 hS1 => ?_, ?_⟩; (focus (skip; go_simp; with_reducible rfl))
        rw [show List.erase [7, 9] 7 = [9] from rfl]; simp only [Act.put, List.setIfInBounds_toArray, List.set_cons_zero, List.set_cons_succ]
        refine TxtT.one 9 (by as_aux_lemma => kernel_rfl) (by rw [List.getElem?_toArray]; rfl) (by rfl) (by rfl) (fun v => v = undef) (fun _ w' => OfK W1.heap.size N A k c root l0 l1 M ms cm q gS gL 1 w' ∧ RowB w' gL ms.length (fun _ => false)) (fun w1 hS1 hJ1 => ?_) ?_
        · have hst := OfJ.store (N := N) (A := A) (k := k) (c := c) (root := root) (l0 := l0) (l1 := l1) (M := M) (cm := cm) hJ1 hS1
          obtain ⟨z0, z1, z2, z3, z4, z5, z6, z7, z8⟩ := tbC (hJ1.fc q rfl).2
          obtain ⟨y0, y1, y2, y3, y4, y5, y6, y7, y8⟩ := tbF (hJ1.fc q rfl).2
          exact Eff.skip (by go_simp; rfl) ⟨hst.2.2, rfl, hst.1, hst.2.1⟩
        rintro _ rfl
        rw [show List.erase [9] 9 = [] from rfl]; simp only [Act.put]
        refine ⟨rfl, fun w1 hS1 hJ1 => ?_⟩
        go_wp2_with fail
        go_meet
        exact ⟨q, gS, gL, rfl, hJ1.1, hJ1.2, hS1⟩
      ·
        rintro _ ⟨gL, rfl⟩
        rw [show List.erase [2, 6, 7, 9] 6 = [2, 7, 9] from rfl]; simp only [Act.put, List.setIfInBounds_toArray, List.set_cons_zero, List.set_cons_succ]
        refine TxtT.weakJ (J2 := (fun w' => OfJ W1.heap.size ms none (some gL) (some q) w')) (fun w1 h => by obtain ⟨g, hg, h⟩ := h; injection hg with hg; injection hg with hg; injection hg with hg _ _; subst hg; exact h) ?_
        refine TxtT.one 2 (by as_aux_lemma => kernel_rfl) (by rw [List.getElem?_toArray]; rfl) (by rfl) (by rfl) (fun v => ∃ g, v = Value.slice (some ⟨g, 0, none⟩) ms.length ms.length) (fun v w' => ∃ g, v = Value.slice (some ⟨g, 0, none⟩) ms.length ms.length ∧ OfJ W1.heap.size ms (some g) (some gL) (some q) w') (fun w1 hS1 hJ1 => ?_) ?_
        · refine Eff.call (f := 59) (args := #[.agg #[.int .i64 N, .slice A k c, .int .i64 root, .int .i64 l0, .int .i64 l1, .slice M ms.length cm]]) (by go_simp) ((status_any N A k c root l0 l1 M ms cm w1 (hrm.below hS1) HM.out Hl.out).mono ?_)
          rintro e w' ⟨g, rfl, hg, hrow, hb3⟩
          exact ⟨_, rfl, hS1.trans (hb3.mono hS1.size), ⟨g, rfl⟩, g, rfl, OfJ.addA hJ1 hS1.size hb3 hg hrow⟩
        rintro _ ⟨gS, rfl⟩
        rw [show List.erase [2, 7, 9] 2 = [7, 9] from rfl]; simp only [Act.put, List.setIfInBounds_toArray, List.set_cons_zero, List.set_cons_succ]
        refine TxtT.weakJ (J2 := (fun w' => OfJ W1.heap.size ms (some gS) (some gL) (some q) w')) (fun w1 h => by obtain ⟨g, hg, h⟩ := h; injection hg with hg; injection hg with hg; injection hg with hg _ _; subst hg; exact h) ?_
        refine TxtT.pure 7 (by rfl) (by rw [List.getElem?_toArray]; rfl) (by rfl) (by as_aux_lemma => kernel_rfl) (by rfl) ?_; apply Exists.intro; refine ⟨fun w1 hS1 => ?_, ?_⟩; (focus (skip; go_simp; with_reducible rfl))
        rw [show List.erase [7, 9] 7 = [9] from rfl]; simp only [Act.put, List.setIfInBounds_toArray, List.set_cons_zero, List.set_cons_succ]
        refine TxtT.one 9 (by as_aux_lemma => kernel_rfl) (by rw [List.getElem?_toArray]; rfl) (by rfl) (by rfl) (fun v => v = undef) (fun _ w' => OfK W1.heap.size N A k c root l0 l1 M ms cm q gS gL 1 w' ∧ RowB w' gL ms.length (fun _ => false)) (fun w1 hS1 hJ1 => ?_) ?_
        · have hst := OfJ.store (N := N) (A := A) (k := k) (c := c) (root := root) (l0 := l0) (l1 := l1) (M := M) (cm := cm) hJ1 hS1
          obtain ⟨z0, z1, z2, z3, z4, z5, z6, z7, z8⟩ := tbC (hJ1.fc q rfl).2
          obtain ⟨y0, y1, y2, y3, y4, y5, y6, y7, y8⟩ := tbF (hJ1.fc q rfl).2
          exact Eff.skip (by go_simp; rfl) ⟨hst.2.2, rfl, hst.1, hst.2.1⟩
        rintro _ rfl
        rw [show List.erase [9] 9 = [] from rfl]; simp only [Act.put]
        refine ⟨rfl, fun w1 hS1 hJ1 => ?_⟩
        go_wp2_with fail
        go_meet
        exact ⟨q, gS, gL, rfl, hJ1.1, hJ1.2, hS1⟩
  obtain ⟨q, gS, gL, rfl, hK, hrl, hS⟩ := hcut
  have hrm1 : ∀ wx, Below W1.heap.size W1 wx → RM wx M ms := fun wx h => hrm.below h
  have Hrm := Lib.hid hrm1
  have Hb0 := Lib.hid hb0
  obtain ⟨d0, d1, d2, d3, d4, d5⟩ := dgC kd
  have Hkt := Lib.hid kt
  have hrt : w.heap.size + 1 < W1.heap.size := by omega
  have hrd : w.heap.size < W1.heap.size := by omega
  clear hrm hrm1 hb0 kt kd d0 d1 d2 d3 d4
  have z6 : wc.cell? ⟨q, 6, none⟩ = some (.slice (some ⟨gS, 0, none⟩) ms.length ms.length) := (tbC hK.blk).2.2.2.2.2.2.1
  have z7 : wc.cell? ⟨q, 7, none⟩ = some (.int .i64 1) := (tbC hK.blk).2.2.2.2.2.2.2.1
  have f7 := hK.blk.frozen 7
  have cs := hK.rs.cell hpos
  have hn0 : (0 : Int) < (ms.length : Int) := by omega
  go_upto_if 17 with fail
  go_cut [3] (fun s wx => s = Value.pointer (some ⟨q, 0, none⟩) ∧ OfK W1.heap.size N A k c root l0 l1 M ms cm q gS gL (leadr ms) wx ∧ RowB wx gL ms.length (fun _ => false) ∧ Below W1.heap.size W1 wx)
  case first =>
    by_cases h2 : stF ms 0 = 2
    · have hld : leadr ms = 2 := by unfold leadr; rw [if_pos h2]
      have Hld := Lib.hid hld
      have hb2 : (stF ms 0 == 2) = true := beq_iff_eq.2 h2
      have HK := Lib.hid (hK.lead 2)
      have Hrl := Lib.hid (show RowB (wc.setCell ⟨q, 7, none⟩ (.int .i64 2)) gL ms.length (fun _ => false) from World.rowIs.setOther hrl (a := ⟨q, 7, none⟩) hK.ql _)
      have Hb := Lib.hid (hS.setCell (p := ⟨q, 7, none⟩) hK.q0 (.int .i64 2))
      clear hK hrl hS h2 hld
      go_wp2_with fail
      go_meet
      exact ⟨rfl, by rw [Hld.out]; exact HK.out, Hrl.out, Hb.out⟩
    · have hld : leadr ms = 1 := by unfold leadr; rw [if_neg h2]
      have Hld := Lib.hid hld
      have hb2 : (stF ms 0 == 2) = false := beq_eq_false_iff_ne.2 h2
      have HK := Lib.hid hK
      have Hrl := Lib.hid hrl
      have Hb := Lib.hid hS
      clear hK hrl hS h2 hld
      go_wp2_with fail
      go_meet
      exact ⟨rfl, by rw [Hld.out]; exact HK.out, Hrl.out, Hb.out⟩
  clear z6 z7 f7 cs hK hrl hS
  obtain ⟨rfl, hK, hrl, hS⟩ := hcut
  obtain ⟨z0, z1, z2, z3, z4, z5, z6, z7, z8⟩ := tbC hK.blk
  have fz := hrl.frozen 0
  have cz := hrl.cell hpos
  have HK0 := Lib.hid (hK.set 0 (.bool true))
  have Hrl0 := Lib.hid ((hrl.set 0 true).congr (f' := fun i => if i < 1 then ldF ms i else false) fun i _ => by
    by_cases e : i = 0
    · subst e; rw [if_pos rfl, if_pos (Nat.lt_succ_self _), ld_zero]
    · rw [if_neg e, if_neg (by omega)])
  have HS0 := Lib.hid (hS.setCell (p := ⟨gL, 0, none⟩) hK.d0 (.bool true))
  have d5c := (hS.cell (p := ⟨w.heap.size, 5, none⟩) hrd).trans d5
  clear hK hrl hS z0 z1 z2 z3 z4 z5 z6
  go_wp2_with fail
  clear d5c fz cz z7 z8
  go_loopw [4] (fun t wr => ∃ j : Nat, 1 ≤ j ∧ j ≤ ms.length ∧ t = .int .i64 j ∧ OfK W1.heap.size N A k c root l0 l1 M ms cm q gS gL (leadr ms) wr ∧ RowB wr gL ms.length (fun i => if i < j then ldF ms i else false) ∧ Below W1.heap.size W1 wr) (fun t _ => ms.length - (intOf t).toNat)
  case atStart => exact ⟨1, Nat.le_refl _, hpos, rfl, HK0.out, Hrl0.out, HS0.out⟩
  case round =>
    clear HK0 Hrl0 HS0
    obtain ⟨j, hj1, hj, rfl, hK, hrl, hS⟩ := hrel
    have d5c := (hS.cell (p := ⟨w.heap.size, 5, none⟩) hrd).trans d5
    obtain ⟨z0, z1, z2, z3, z4, z5, z6, z7, z8⟩ := tbC hK.blk
    by_cases hlt : j < ms.length
    case neg =>
      obtain rfl : j = ms.length := by omega
      have Hrs := Lib.hid hK.rs
      have hrl' : RowB wr gL ms.length (ldF ms) := hrl.congr fun i hi => by rw [if_pos hi]
      have Hrl := Lib.hid hrl'
      have hkt := Hkt.out.below hS hrt
      obtain ⟨r0, r1, r2, r3, r4, r5, r6, r7, r8⟩ := tbC hkt
      obtain ⟨y0, y1, y2, y3, y4, y5, y6, y7, y8⟩ := tbF hkt
      have hsT : w.heap.size + 1 ≠ gS := by have := hK.s0; omega
      have hlT : w.heap.size + 1 ≠ gL := by have := hK.d0; omega
      have HsT := Lib.hid hsT; have HlT := Lib.hid hlT
      have HS := Lib.hid hS; have Hk2 := Lib.hid hkt
      clear hK hrl hrl' hS hkt hsT hlT
      go_wp2_with fail
      have hk2 := st9_blk Hk2.out (.int .i64 N) (.slice A k c) (.int .i64 root) (.int .i64 l0) (.int .i64 l1) (.slice M ms.length cm) (.slice (some ⟨gS, 0, none⟩) ms.length ms.length) (.int .i64 (leadr ms)) (.slice (some ⟨gL, 0, none⟩) ms.length ms.length)
      unfold st9 at hk2
      obtain ⟨x0, x1, x2, x3, x4, x5, x6, x7, x8⟩ := tbC hk2
      refine bodyPost_ret (v := .agg #[.int .i64 N, .slice A k c, .int .i64 root, .int .i64 l0, .int .i64 l1, .slice M ms.length cm, .slice (some ⟨gS, 0, none⟩) ms.length ms.length, .int .i64 (leadr ms), .slice (some ⟨gL, 0, none⟩) ms.length ms.length]) (by simp [results, Try.results44, go_sem, x0, x1, x2, x3, x4, x5, x6, x7, x8]) rfl ?_
      exact ⟨gS, gL, rfl, st9_row Hrs.out (fun e => HsT.out e.symm) .., st9_row Hrl.out (fun e => HlT.out e.symm) .., st9_below (Hb0.out.trans (HS.out.mono (by omega))) (by omega) ..⟩
    case pos =>
    have hj0 : 0 < j := hj1
    obtain ⟨ht, htk⟩ := HM.out.tg hj0 hlt
    have hjz : (0 : Int) ≤ (j : Int) := by omega
    have hjl : (j : Int) < (ms.length : Int) := by omega
    have htz : (0 : Int) ≤ (tg ms j : Int) := by omega
    have htl : (tg ms j : Int) < (ms.length : Int) := by omega
    have htn : tg ms j < ms.length := by omega
    obtain ⟨b, o, rfl, e0, e1, e2, e3⟩ := (Hrm.out wr hS) j hlt
    rw [ht] at e3
    have cs := hK.rs.cell hlt
    have cl := hrl.cell htn
    rw [if_pos htk] at cl
    have hle := ld_eq HM.out hj0 hlt
    have Hle := Lib.hid hle
    have Ht := Lib.hid ht
    clear hle ht
    have Hstep : ∀ (x : Bool) (wx : World), RowB wx gL ms.length (fun i => if i = j then x else if i < j then ldF ms i else false) → ldF ms j = x → RowB wx gL ms.length (fun i => if i < j + 1 then ldF ms i else false) := fun x wx h e => h.congr fun i _ => by
      by_cases e1 : i = j
      · subst e1; rw [if_pos rfl, if_pos (Nat.lt_succ_self _), e]
      · rw [if_neg e1]
        by_cases e2 : i < j
        · rw [if_pos e2, if_pos (show i < j + 1 by omega)]
        · rw [if_neg e2, if_neg (show ¬ i < j + 1 by omega)]
    have Hno : ldF ms j = false → RowB wr gL ms.length (fun i => if i < j + 1 then ldF ms i else false) := fun e => hrl.congr fun i _ => by
      by_cases e1 : i = j
      · subst e1; rw [if_neg (Nat.lt_irrefl _), if_pos (Nat.lt_succ_self _), e]
      · by_cases e2 : i < j
        · rw [if_pos e2, if_pos (show i < j + 1 by omega)]
        · rw [if_neg e2, if_neg (show ¬ i < j + 1 by omega)]
    have HKw := Lib.hid hK; have Hrl := Lib.hid hrl; have HSw := Lib.hid hS
    have HH1 := Lib.hid Hstep; have HH2 := Lib.hid Hno
    clear hK hrl hS Hstep Hno
    cases ha : (stF ms j == 0)
    case true =>
      have Hf := Lib.hid (HH2.out (by rw [Hle.out, ha]; rfl))
      go_wp2_with fail
      go_quiet (fail)
      go_wp2_with fail
      go_roundw
      case rel => exact ⟨j + 1, by omega, by omega, by go_num, HKw.out.below (below_drewN (Below.refl _ _) _), Hf.out, below_drewN HSw.out _⟩
      case measure => simp [intOf]; omega
    case false =>
    cases hb : ldF ms (tg ms j)
    case false =>
      rw [hb] at cl
      have Hf := Lib.hid (HH2.out (by rw [Hle.out, hb]; simp))
      go_wp2_with fail
      go_quiet (fail)
      go_wp2_with fail
      go_roundw
      case rel => exact ⟨j + 1, by omega, by omega, by go_num, HKw.out.below (below_drewN (Below.refl _ _) _), Hf.out, below_drewN HSw.out _⟩
      case measure => simp [intOf]; omega
    case true =>
    rw [hb] at cl
    have hval : ldF ms j = ((mv ms (tg ms j)).1 == leadr ms || stF ms j == 1) := by rw [Hle.out, hb, ha]; rfl
    have Hval := Lib.hid hval
    clear hval
    go_wp2_with fail
    go_quiet (fail)
    clear z0 z1 z2 z3 z4 z5 z6 z7 z8 cs cl e0 e1 e2 e3 d5c
    have HKd := HKw.out.below (below_drewN (Below.refl _ _) nq)
    have HSd := below_drewN HSw.out nq
    have Hrd : RowB (wr.drewN nq) gL ms.length (fun i => if i < j then ldF ms i else false) := Hrl.out
    generalize wr.drewN nq = wq at *
    clear HKw HSw Hrl HH2
    go_upto_region 9 with fail
    cases hd : ((mv ms (tg ms j)).1 == leadr ms)
    · have Hd := Lib.hid hd
      refine wp_region_textB [26] (fun w' => OfK W1.heap.size N A k c root l0 l1 (some ⟨b, o, none⟩) ms cm q gS gL (leadr ms) w' ∧ Below W1.heap.size W1 w') (fun w' => RowB w' gL ms.length (fun i => if i < j then ldF ms i else false)) (by kernel_rfl) (by kernel_rfl) (by kernel_rfl) ⟨HKd.below (below_drewN (Below.refl _ _) 1), below_drewN HSd 1⟩ Hrd ?_
      repeat (first
        | (refine TxtBL.skip (by rfl) ?_; simp only [Act.put, List.setIfInBounds_toArray, List.set_cons_zero, List.set_cons_succ])
        | (refine TxtBL.take (by rfl) (by rfl) ?_; apply Exists.intro; refine ⟨fun w1 hS1 => ?_, ?_⟩; (focus ((obtain ⟨z0, z1, z2, z3, z4, z5, z6, z7, z8⟩ := tbC hS1.1.blk); (have cs1 := hS1.1.rs.cell hlt); (have d5w := (hS1.2.cell (p := ⟨w.heap.size, 5, none⟩) hrd).trans d5); (obtain ⟨m0, m1, m2, m3⟩ := RM.cells (Hrm.out _ hS1.2) hlt); (rw [Ht.out] at m3); (obtain ⟨n0, n1, n2, n3⟩ := RM.cells (Hrm.out _ hS1.2) htn); go_simp; with_reducible rfl)); simp only [Act.put, List.setIfInBounds_toArray, List.set_cons_zero, List.set_cons_succ])
        | (refine TxtBL.takeE (by rfl) (by rfl) ?_; apply Exists.intro; refine ⟨fun w1 hS1 => ?_, ?_⟩; (focus ((obtain ⟨z0, z1, z2, z3, z4, z5, z6, z7, z8⟩ := tbC hS1.1.blk); (have cs1 := hS1.1.rs.cell hlt); (have d5w := (hS1.2.cell (p := ⟨w.heap.size, 5, none⟩) hrd).trans d5); (obtain ⟨m0, m1, m2, m3⟩ := RM.cells (Hrm.out _ hS1.2) hlt); (rw [Ht.out] at m3); (obtain ⟨n0, n1, n2, n3⟩ := RM.cells (Hrm.out _ hS1.2) htn); go_simp; with_reducible rfl)); simp only [Act.put, List.setIfInBounds_toArray, List.set_cons_zero, List.set_cons_succ]))
      refine TxtBL.eff (fun u => u = undef) (fun _ w' => RowB w' gL ms.length (fun i => if i = j then (stF ms j == 1) else if i < j then ldF ms i else false)) (by rfl) (by rfl) ⟨_, rfl⟩ (fun w2 hS1 hJ1 => ?_) ?_
      · have cz := hJ1.cell hlt
        have fz := hJ1.frozen j
        exact Eff.skip (w' := w2.setCell ⟨gL, j, none⟩ (.bool (stF ms j == 1))) (by go_simp) ⟨⟨hS1.1.set j _, hS1.2.setCell (p := ⟨gL, j, none⟩) hS1.1.d0 _⟩, rfl, hJ1.set j _⟩
      rintro v rfl
      simp only [Act.put]
      refine TxtBL.nil (fun w2 hS hJ => ?_)
      have HK2 := Lib.hid hS.1; have HS2 := Lib.hid hS.2
      have Hr2 := Lib.hid (HH1.out _ _ hJ (by rw [Hval.out, Hd.out]; exact Bool.false_or _))
      clear hS hJ HKd HSd Hrd hd
      go_wp2_with fail
      go_roundw
      case rel => exact ⟨j + 1, by omega, by omega, by go_num, HK2.out, Hr2.out, HS2.out⟩
      case measure => simp [intOf]; omega
    · have Hd := Lib.hid hd
      refine wp_region_textB [26] (fun w' => OfK W1.heap.size N A k c root l0 l1 (some ⟨b, o, none⟩) ms cm q gS gL (leadr ms) w' ∧ Below W1.heap.size W1 w') (fun w' => RowB w' gL ms.length (fun i => if i < j then ldF ms i else false)) (by kernel_rfl) (by kernel_rfl) (by kernel_rfl) ⟨HKd.below (below_drewN (Below.refl _ _) 1), below_drewN HSd 1⟩ Hrd ?_
      repeat (first
        | (refine TxtBL.skip (by rfl) ?_; simp only [Act.put, List.setIfInBounds_toArray, List.set_cons_zero, List.set_cons_succ])
        | (refine TxtBL.take (by rfl) (by rfl) ?_; apply Exists.intro; refine ⟨fun w1 hS1 => ?_, ?_⟩; (focus ((obtain ⟨z0, z1, z2, z3, z4, z5, z6, z7, z8⟩ := tbC hS1.1.blk); (have cs1 := hS1.1.rs.cell hlt); (have d5w := (hS1.2.cell (p := ⟨w.heap.size, 5, none⟩) hrd).trans d5); (obtain ⟨m0, m1, m2, m3⟩ := RM.cells (Hrm.out _ hS1.2) hlt); (rw [Ht.out] at m3); (obtain ⟨n0, n1, n2, n3⟩ := RM.cells (Hrm.out _ hS1.2) htn); go_simp; with_reducible rfl)); simp only [Act.put, List.setIfInBounds_toArray, List.set_cons_zero, List.set_cons_succ])
        | (refine TxtBL.takeE (by rfl) (by rfl) ?_; apply Exists.intro; refine ⟨fun w1 hS1 => ?_, ?_⟩; (focus ((obtain ⟨z0, z1, z2, z3, z4, z5, z6, z7, z8⟩ := tbC hS1.1.blk); (have cs1 := hS1.1.rs.cell hlt); (have d5w := (hS1.2.cell (p := ⟨w.heap.size, 5, none⟩) hrd).trans d5); (obtain ⟨m0, m1, m2, m3⟩ := RM.cells (Hrm.out _ hS1.2) hlt); (rw [Ht.out] at m3); (obtain ⟨n0, n1, n2, n3⟩ := RM.cells (Hrm.out _ hS1.2) htn); go_simp; with_reducible rfl)); simp only [Act.put, List.setIfInBounds_toArray, List.set_cons_zero, List.set_cons_succ]))
      refine TxtBL.eff (fun u => u = undef) (fun _ w' => RowB w' gL ms.length (fun i => if i = j then true else if i < j then ldF ms i else false)) (by rfl) (by rfl) ⟨_, rfl⟩ (fun w2 hS1 hJ1 => ?_) ?_
      · have cz := hJ1.cell hlt
        have fz := hJ1.frozen j
        exact Eff.skip (w' := w2.setCell ⟨gL, j, none⟩ (.bool true)) (by go_simp) ⟨⟨hS1.1.set j _, hS1.2.setCell (p := ⟨gL, j, none⟩) hS1.1.d0 _⟩, rfl, hJ1.set j _⟩
      rintro v rfl
      simp only [Act.put]
      refine TxtBL.nil (fun w2 hS hJ => ?_)
      have HK2 := Lib.hid hS.1; have HS2 := Lib.hid hS.2
      have Hr2 := Lib.hid (HH1.out _ _ hJ (by rw [Hval.out, Hd.out]; exact Bool.true_or _))
      clear hS hJ HKd HSd Hrd hd
      go_wp2_with fail
      go_roundw
      case rel => exact ⟨j + 1, by omega, by omega, by go_num, HK2.out, Hr2.out, HS2.out⟩
      case measure => simp [intOf]; omega
end Go.Proofs.Ythkknlnfdckdfaa
