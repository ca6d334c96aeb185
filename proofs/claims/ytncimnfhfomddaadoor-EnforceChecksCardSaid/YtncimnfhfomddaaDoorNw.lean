import Derived.Test.YtncimnfhfomddaaDoorGam
import Derived.Test.YtncimnfhfomddaaDoorNg
import Derived.Deep.CutBlock
/- A box that may be laid already, while calls run. -/
namespace Go.Proofs.YtncimnfhfomddaaDoor
open Go.ChangeShapes Go.WideShapes Go.ChangeAt Go.RowKit
def BxC (t : TypeId) (cs : Array Value) (o : Option Nat) (m : Nat) (w : World) : Prop := ∀ q, o = some q → m ≤ q ∧ Blk w q t cs
section
variable {t : TypeId} {cs : Array Value} {o : Option Nat} {m p : Nat} {w w' : World}
theorem BxC.no : BxC t cs Option.none m w := fun q e => by cases e
theorem BxC.new (h : m ≤ w.heap.size) : BxC t cs (some w.heap.size) m (w.alloc (.cells cs t)) := fun q e => by
  injection e with e; subst e; exact ⟨h, Blk.new _ _ _⟩
theorem BxC.grown (h : BxC t cs o m w) (hg : w.grownBy w' (some p)) (hp : p < m) : BxC t cs o m w' := fun q e =>
  ⟨(h q e).1, (h q e).2.grown hg (fun e' => by injection e' with e'; have := (h q e).1; omega)⟩
theorem BxC.below (h : BxC t cs o m w) (hb : Below w.heap.size w w') : BxC t cs o m w' := fun q e => ⟨(h q e).1, (h q e).2.below hb (h q e).2.lt⟩
end
theorem grown_set2 {wr w : World} {p q : Nat} (hg : wr.grownBy w (some p)) (hq : wr.heap.size ≤ q) (i : Nat) (x : Value) : wr.grownBy (w.setCell ⟨q, i, none⟩ x) (some p) :=
  ⟨hg.os, hg.tape, hg.output, by simpa using hg.size, fun j hj hne => (Below.heap_setCell w ⟨q, i, none⟩ x j (by simp; omega)).trans (hg.block j hj hne)⟩
theorem src_set2 {w : World} {p D : Nat} (h : SrcOk w p) (hp : p < D) (i : Nat) (x : Value) : SrcOk (w.setCell ⟨D, i, none⟩ x) p := h.other (grownBy_setCell w D i x) (fun k hk => by injection hk with hk; omega)
theorem boxA (w : World) (t : TypeId) (cs : Array Value) : ∃ W0, w.alloc (.cells cs t) = W0 ∧ Blk W0 w.heap.size t cs ∧ Below w.heap.size w W0 ∧ W0.heap.size = w.heap.size + 1 :=
  ⟨_, rfl, Blk.new _ _ _, newB w _, by simp⟩
theorem grown_below {w X w' : World} {p : Nat} (hg : w.grownBy X (some p)) (hb : Below w.heap.size X w') : w.grownBy w' (some p) :=
  ⟨hb.os.trans hg.os, hb.tape.trans hg.tape, hb.output.trans hg.output, Nat.le_trans hg.size hb.size, fun j hj hne => (hb.block j hj).trans (hg.block j hj hne)⟩
theorem OwnR.formR {w : World} {b : Nat} {v : Value} {l : List (Int × Int)} (h : OwnR w b v l) : ∃ A c, v = .slice A l.length c := by
  rcases h.form with ⟨rfl, rfl⟩ | ⟨g, c, rfl, -, -⟩
  · exact ⟨none, 0, rfl⟩
  · exact ⟨_, c, rfl⟩
theorem OwnR.grown {w w' : World} {b p : Nat} {v : Value} {l : List (Int × Int)} (h : OwnR w b v l) (hg : w.grownBy w' (some p)) (hp : p < b) : OwnR w' b v l :=
  World.ownsRow.kept h hg (.inr fun e => by have := (World.ownsRow.lt h p e).1; omega)
theorem OwnR.rp {w : World} {b : Nat} {A : Option Addr} {c : Nat} {l : List (Int × Int)} (h : OwnR w b (.slice A l.length c) l) : RP w A l := by
  rcases h.form with ⟨e, rfl⟩ | ⟨g, c', e, -, -⟩
  · injection e with e; subst e; exact RP.nil _ _
  · injection e with e; subst e
    intro k hk
    have h0 := flatP_at l k hk
    have c0 := h.cells (g := g) rfl _ _ h0.1
    have c1 := h.cells (g := g) rfl _ _ h0.2
    rw [show (⟨g, 0, none⟩ : Addr).add (k * 2) = ⟨g, 0 + k * 2, none⟩ by unfold Addr.add; split <;> simp_all] at c0
    rw [show (⟨g, 0, none⟩ : Addr).add (k * 2 + 1) = ⟨g, 0 + k * 2 + 1, none⟩ by unfold Addr.add; split <;> simp_all] at c1
    exact ⟨g, 0, rfl, c0, c1⟩
theorem OwnR.farB {w : World} {b : Nat} {v : Value} {l : List (Int × Int)} (h : OwnR w b v l) {a : Addr} (hp : a.block < b) (x : Value) : OwnR (w.setCell a x) b v l := ownsRow_setCell_below h hp x
end Go.Proofs.YtncimnfhfomddaaDoor

/- Package deliberationnet: In, Attacked, Free, Admissible, Stable, Members, SomeAdmissible. -/
namespace Go.Proofs.YtncimnfhfomddaaDoor
open Go.ChangeShapes Go.WideShapes Go.ChangeAt Go.RowKit

/-- some node of the list attacks a -/
def atkB (l : List (Int × Int)) (s : List Int) (a : Int) : Bool := s.any fun x => hasB l x a
def freB (l : List (Int × Int)) (s : List Int) : Bool := s.all fun x => !atkB l s x
def admB (l : List (Int × Int)) (s : List Int) : Bool := (l.all fun p => !inB s p.2 || atkB l s p.1) && freB l s
def stbB (n : Nat) (l : List (Int × Int)) (s : List Int) : Bool := ((List.range n).all fun a => inB s (a : Int) || atkB l s (a : Int)) && freB l s
theorem any_take_hit {α : Type} {p : α → Bool} {l : List α} {k : Nat} (h : k < l.length) (hp : p l[k] = true) : l.any p = true := List.any_eq_true.2 ⟨l[k], List.getElem_mem _, hp⟩
theorem any_take_succ {α : Type} {p : α → Bool} {l : List α} {k : Nat} (h : k < l.length) (h0 : (l.take k).any p = false) (hp : p l[k] = false) : (l.take (k + 1)).any p = false := by
  rw [List.take_succ_eq_append_getElem h, List.any_append, h0, List.any_cons, hp]; rfl
theorem all_take_bad {α : Type} {p : α → Bool} {l : List α} {k : Nat} (h : k < l.length) (hp : p l[k] = false) : l.all p = false := by
  rw [Bool.eq_false_iff]; intro e
  have := List.all_eq_true.1 e _ (List.getElem_mem h)
  rw [hp] at this; cases this
theorem all_take_succ {α : Type} {p : α → Bool} {l : List α} {k : Nat} (h : k < l.length) (h0 : (l.take k).all p = true) (hp : p l[k] = true) : (l.take (k + 1)).all p = true := by
  rw [List.take_succ_eq_append_getElem h, List.all_append, h0, List.all_cons, hp]; rfl

theorem nwIn_any (B : Option Addr) (s : List Int) (cs : Nat) (x : Int) (w : World) (hs : RI w B s) (hl : s.length ≤ 100000) :
    Calls Tryd.prog 48 #[.slice B s.length cs, .int .i64 x] w (Ret (.bool (inB s x)) w) := by
  go_enter Tryd.func48, Tryd.ntmps48
  go_wp2_with fail
  go_loop [5] (fun i => ∃ k : Nat, k ≤ s.length ∧ i = .int .i64 k ∧ inB (s.take k) x = false) (fun i => s.length - (intOf i).toNat)
  case atStart => exact ⟨0, by omega, rfl, by simp [inB]⟩
  case round =>
    obtain ⟨k, hk, rfl, hno⟩ := hrel
    have Hno := Lib.hid hno; clear hno
    by_cases hlt : k < s.length
    case neg =>
      go_wp2
      go_ret
      exact ⟨rb (inB_all s x k hlt Hno.out).symm, rfl⟩
    case pos =>
    obtain ⟨b, o, rfl, hc⟩ := hs.at_ hlt
    cases t1 : s[k] == x
    · have T1 := Lib.hid t1
      go_wp2
      go_round
      case rel => exact ⟨k + 1, by omega, by go_num, inB_take_succ s x k hlt Hno.out T1.out⟩
      case measure => simp [intOf]; omega
    · have T1 := Lib.hid t1
      go_wp2
      go_ret
      exact ⟨rb (inB_hit s x k hlt T1.out).symm, rfl⟩
set_option maxRecDepth 100000 in
set_option maxHeartbeats 2000000 in
theorem nwAtk_any (A : Option Addr) (N : Int) (l : List (Int × Int)) (c : Nat) (B : Option Addr) (s : List Int) (cs : Nat) (a : Int) (w : World) (hr : RP w A l) (hlen : l.length ≤ 100000) (hs : RI w B s) (hl : s.length ≤ 100000) :
    Calls Tryd.prog 95 #[.agg #[.int .i64 N, .slice A l.length c], .slice B s.length cs, .int .i64 a] w (RetB (.bool (atkB l s a)) w) := by
  go_enter Tryd.func95, Tryd.ntmps95
  go_upto_region 1 with fail
  obtain ⟨W0, hW, c0, c1, hb0, hlt0⟩ := boxed w 24 (.int .i64 N) (.slice A l.length c)
  rw [hW]
  have hr0 := hr.below hb0; have hs0 := hs.below hb0
  have Hr0 := Lib.hid hr0; have Hs0 := Lib.hid hs0
  clear hW hr hs hr0 hs0
  go_wp2_with fail
  go_loopw [7] (fun t7 wx => ∃ k : Nat, k ≤ s.length ∧ t7 = .int .i64 (k : Int) ∧ (s.take k).any (fun x => hasB l x a) = false ∧ Below W0.heap.size W0 wx) (fun t7 _ => s.length - (intOf t7).toNat)
  case atStart => exact ⟨0, Nat.zero_le _, rfl, rfl, Below.refl _ _⟩
  case round =>
    obtain ⟨k, hk, rfl, hno, hbr⟩ := hrel
    have Hno := Lib.hid hno; have Hbr := Lib.hid hbr
    have d0 := (hbr.cell (lt_of_cell c0)).trans c0; have d1 := (hbr.cell (lt_of_cell c1)).trans c1
    have hs1 := Hs0.out.below hbr
    by_cases hlt : k < s.length
    case neg =>
      clear hno hbr
      go_wp2_with fail
      go_ret
      exact ⟨rb (by have := Hno.out; rw [List.take_of_length_le (by omega)] at this; exact this.symm), endB hb0 Hbr.out⟩
    case pos =>
    obtain ⟨b, o, rfl, hc⟩ := hs1.at_ hlt
    obtain ⟨x, hx⟩ : ∃ x, s[k] = x := ⟨_, rfl⟩
    rw [hx] at hc
    have Hx := Lib.hid hx
    have Hhas := Lib.hid (fun W (hW : Below wr.heap.size wr W) => gnHas_any A N l c x a W ((Hr0.out.below hbr).below hW) hlen)
    clear hno hx hs1 hbr
    obtain ⟨W1, hW1⟩ : ∃ W1, W1 = wr := ⟨_, rfl⟩
    subst hW1
    go_wp2_with fail
    refine wp_region_textB [6] (fun w' => Below W1.heap.size W1 w') (fun _ => True) (by kernel_rfl) (by kernel_rfl) (by kernel_rfl) (Below.refl _ _).drew trivial ?_
    repeat (first
      | (refine TxtBL.skip (by rfl) ?_; simp only [Act.put, List.setIfInBounds_toArray, List.set_cons_zero, List.set_cons_succ])
      | (refine TxtBL.take (by rfl) (by rfl) ?_; apply Exists.intro; refine ⟨fun w1 hS1 => ?_, ?_⟩; (focus ((have g0 := (hS1.cell (lt_of_cell d0)).trans d0; have g1 := (hS1.cell (lt_of_cell d1)).trans d1; have g2 := (hS1.cell (lt_of_cell hc)).trans hc); go_simp; with_reducible rfl)); simp only [Act.put, List.setIfInBounds_toArray, List.set_cons_zero, List.set_cons_succ])
      | (refine TxtBL.takeE (by rfl) (by rfl) ?_; apply Exists.intro; refine ⟨fun w1 hS1 => ?_, ?_⟩; (focus ((have g0 := (hS1.cell (lt_of_cell d0)).trans d0; have g1 := (hS1.cell (lt_of_cell d1)).trans d1; have g2 := (hS1.cell (lt_of_cell hc)).trans hc); go_simp; with_reducible rfl)); simp only [Act.put, List.setIfInBounds_toArray, List.set_cons_zero, List.set_cons_succ]))
    refine TxtBL.call (f := 40) (args := #[.agg #[.int .i64 N, .slice A l.length c], .int .i64 x, .int .i64 a]) (fun u => u = .bool (hasB l x a)) (fun _ _ => True) (by rfl) (by rfl) ⟨_, rfl⟩ (fun w1 hS1 hJ1 => by go_simp) (fun w1 hS1 hJ1 => ?_) ?_
    · refine (Hhas.out w1 hS1).mono ?_
      rintro e w' ⟨rfl, hb⟩
      exact ⟨_, rfl, hS1.trans (hb.mono hS1.size), rfl, trivial⟩
    rintro _ rfl
    simp only [Act.put, List.setIfInBounds_toArray, List.set_cons_zero, List.set_cons_succ]
    refine TxtBL.nil (fun W2 hS2 _ => ?_)
    have Hb2 := Lib.hid (Hbr.out.trans (hS2.mono Hbr.out.size))
    clear hS2 Hhas d0 d1 hc
    cases hh : hasB l x a
    · have Hh := Lib.hid hh
      clear hh
      go_wp2_with fail
      go_roundw
      case rel => exact ⟨k + 1, by omega, by go_num, any_take_succ hlt Hno.out (by show hasB l s[k] a = false; rw [Hx.out]; exact Hh.out), Hb2.out⟩
      case measure => simp [intOf]; omega
    · have Hh := Lib.hid hh
      clear hh
      go_wp2_with fail
      go_ret
      exact ⟨rb (any_take_hit (p := fun x => hasB l x a) hlt (by show hasB l s[k] a = true; rw [Hx.out]; exact Hh.out)).symm, endB hb0 Hb2.out⟩
set_option maxRecDepth 100000 in
set_option maxHeartbeats 2000000 in
theorem nwFree_any (A : Option Addr) (N : Int) (l : List (Int × Int)) (c : Nat) (B : Option Addr) (s : List Int) (cs : Nat) (w : World) (hr : RP w A l) (hlen : l.length ≤ 100000) (hs : RI w B s) (hl : s.length ≤ 100000) :
    Calls Tryd.prog 86 #[.agg #[.int .i64 N, .slice A l.length c], .slice B s.length cs] w (RetB (.bool (freB l s)) w) := by
  go_enter Tryd.func86, Tryd.ntmps86
  go_upto_region 1 with fail
  obtain ⟨W0, hW, c0, c1, hb0, hlt0⟩ := boxed w 24 (.int .i64 N) (.slice A l.length c)
  rw [hW]
  have hr0 := hr.below hb0; have hs0 := hs.below hb0
  have Hr0 := Lib.hid hr0; have Hs0 := Lib.hid hs0
  clear hW hr hs hr0 hs0
  go_wp2_with fail
  go_loopw [5] (fun t7 wx => ∃ k : Nat, k ≤ s.length ∧ t7 = .int .i64 (k : Int) ∧ (s.take k).all (fun x => !atkB l s x) = true ∧ Below W0.heap.size W0 wx) (fun t7 _ => s.length - (intOf t7).toNat)
  case atStart => exact ⟨0, Nat.zero_le _, rfl, rfl, Below.refl _ _⟩
  case round =>
    obtain ⟨k, hk, rfl, hno, hbr⟩ := hrel
    have Hno := Lib.hid hno; have Hbr := Lib.hid hbr
    have d0 := (hbr.cell (lt_of_cell c0)).trans c0; have d1 := (hbr.cell (lt_of_cell c1)).trans c1
    have hs1 := Hs0.out.below hbr
    by_cases hlt : k < s.length
    case neg =>
      clear hno hbr
      go_wp2_with fail
      go_ret
      exact ⟨rb (by have := Hno.out; rw [List.take_of_length_le (by omega)] at this; exact this.symm), endB hb0 Hbr.out⟩
    case pos =>
    obtain ⟨b, o, rfl, hc⟩ := hs1.at_ hlt
    obtain ⟨x, hx⟩ : ∃ x, s[k] = x := ⟨_, rfl⟩
    rw [hx] at hc
    have Hx := Lib.hid hx
    have Hhas := Lib.hid (fun W (hW : Below wr.heap.size wr W) => nwAtk_any A N l c (some ⟨b, o, none⟩) s cs x W ((Hr0.out.below hbr).below hW) hlen ((Hs0.out.below hbr).below hW) hl)
    clear hno hx hs1 hbr
    obtain ⟨W1, hW1⟩ : ∃ W1, W1 = wr := ⟨_, rfl⟩
    subst hW1
    go_wp2_with fail
    refine wp_region_textB [6] (fun w' => Below W1.heap.size W1 w') (fun _ => True) (by kernel_rfl) (by kernel_rfl) (by kernel_rfl) (Below.refl _ _).drew trivial ?_
    repeat (first
      | (refine TxtBL.skip (by rfl) ?_; simp only [Act.put, List.setIfInBounds_toArray, List.set_cons_zero, List.set_cons_succ])
      | (refine TxtBL.take (by rfl) (by rfl) ?_; apply Exists.intro; refine ⟨fun w1 hS1 => ?_, ?_⟩; (focus ((have g0 := (hS1.cell (lt_of_cell d0)).trans d0; have g1 := (hS1.cell (lt_of_cell d1)).trans d1; have g2 := (hS1.cell (lt_of_cell hc)).trans hc); go_simp; with_reducible rfl)); simp only [Act.put, List.setIfInBounds_toArray, List.set_cons_zero, List.set_cons_succ])
      | (refine TxtBL.takeE (by rfl) (by rfl) ?_; apply Exists.intro; refine ⟨fun w1 hS1 => ?_, ?_⟩; (focus ((have g0 := (hS1.cell (lt_of_cell d0)).trans d0; have g1 := (hS1.cell (lt_of_cell d1)).trans d1; have g2 := (hS1.cell (lt_of_cell hc)).trans hc); go_simp; with_reducible rfl)); simp only [Act.put, List.setIfInBounds_toArray, List.set_cons_zero, List.set_cons_succ]))
    refine TxtBL.call (f := 95) (args := #[.agg #[.int .i64 N, .slice A l.length c], .slice (some ⟨b, o, none⟩) s.length cs, .int .i64 x]) (fun u => u = .bool (atkB l s x)) (fun _ _ => True) (by rfl) (by rfl) ⟨_, rfl⟩ (fun w1 hS1 hJ1 => by go_simp) (fun w1 hS1 hJ1 => ?_) ?_
    · refine (Hhas.out w1 hS1).mono ?_
      rintro e w' ⟨rfl, hb⟩
      exact ⟨_, rfl, hS1.trans (hb.mono hS1.size), rfl, trivial⟩
    rintro _ rfl
    simp only [Act.put, List.setIfInBounds_toArray, List.set_cons_zero, List.set_cons_succ]
    refine TxtBL.nil (fun W2 hS2 _ => ?_)
    have Hb2 := Lib.hid (Hbr.out.trans (hS2.mono Hbr.out.size))
    clear hS2 Hhas d0 d1 hc
    cases hh : atkB l s x
    · have Hh := Lib.hid hh
      clear hh
      go_wp2_with fail
      go_roundw
      case rel => exact ⟨k + 1, by omega, by go_num, all_take_succ hlt Hno.out (by show (!atkB l s s[k]) = true; rw [Hx.out, Hh.out]; rfl), Hb2.out⟩
      case measure => simp [intOf]; omega
    · have Hh := Lib.hid hh
      clear hh
      go_wp2_with fail
      go_ret
      exact ⟨rb (all_take_bad (p := fun x => !atkB l s x) hlt (by show (!atkB l s s[k]) = false; rw [Hx.out, Hh.out]; rfl)).symm, endB hb0 Hb2.out⟩
set_option maxRecDepth 100000 in
set_option maxHeartbeats 4000000 in
theorem nwAdm_any (A : Option Addr) (N : Int) (l : List (Int × Int)) (c : Nat) (B : Option Addr) (s : List Int) (cs : Nat) (w : World) (hr : RP w A l) (hlen : l.length ≤ 100000) (hs : RI w B s) (hl : s.length ≤ 100000) :
    Calls Tryd.prog 72 #[.agg #[.int .i64 N, .slice A l.length c], .slice B s.length cs] w (RetB (.bool (admB l s)) w) := by
  go_enter Tryd.func72, Tryd.ntmps72
  go_upto_region 1 with fail
  obtain ⟨W0, hW, c0, c1, hb0, hlt0⟩ := boxed w 24 (.int .i64 N) (.slice A l.length c)
  rw [hW]
  have hr0 := hr.below hb0; have hs0 := hs.below hb0
  have Hr0 := Lib.hid hr0; have Hs0 := Lib.hid hs0
  clear hW hr hs hr0 hs0
  go_wp2_with fail
  go_loopw [5] (fun t7 wx => ∃ k : Nat, k ≤ l.length ∧ t7 = .int .i64 (k : Int) ∧ (l.take k).all (fun p => !inB s p.2 || atkB l s p.1) = true ∧ Below W0.heap.size W0 wx) (fun t7 _ => l.length - (intOf t7).toNat)
  case atStart => exact ⟨0, Nat.zero_le _, rfl, rfl, Below.refl _ _⟩
  case round =>
    obtain ⟨k, hk, rfl, hno, hbr⟩ := hrel
    have Hno := Lib.hid hno; have Hbr := Lib.hid hbr
    have d0 := (hbr.cell (lt_of_cell c0)).trans c0; have d1 := (hbr.cell (lt_of_cell c1)).trans c1
    have hr1 := Hr0.out.below hbr
    by_cases hlt : k < l.length
    case neg =>
      have Hall : RowKit.Hid (l.all (fun p => !inB s p.2 || atkB l s p.1) = true) := Lib.hid (by have := Hno.out; rwa [List.take_of_length_le (by omega)] at this)
      have Hf := Lib.hid (nwFree_any A N l c B s cs wr hr1 hlen (Hs0.out.below hbr) hl)
      clear hno hbr hr1
      go_wp2_with fail
      refine Hf.out.mono ?_
      rintro e w2 ⟨rfl, hb2⟩
      go_wp2_with fail
      go_ret
      exact ⟨rb (by unfold admB; rw [Hall.out, Bool.true_and]), endB hb0 (Hbr.out.trans (hb2.mono Hbr.out.size))⟩
    case pos =>
    obtain ⟨b, o, hA, hc2, hd2⟩ := hr1.at_ hlt
    obtain ⟨x, hx⟩ : ∃ x, l[k].1 = x := ⟨_, rfl⟩
    obtain ⟨y, hy⟩ : ∃ y, l[k].2 = y := ⟨_, rfl⟩
    rw [hx] at hc2; rw [hy] at hd2
    have Hx := Lib.hid hx; have Hy := Lib.hid hy
    have hin := fun W (hW : Below wr.heap.size wr W) => nwIn_any B s cs y W ((Hs0.out.below hbr).below hW) hl
    obtain ⟨iy, hiy⟩ : ∃ iy, inB s y = iy := ⟨_, rfl⟩
    rw [hiy] at hin
    have Hin := Lib.hid hin; have Hiy := Lib.hid hiy
    have Hatk := Lib.hid (fun W (hW : Below wr.heap.size wr W) => nwAtk_any A N l c B s cs x W ((Hr0.out.below hbr).below hW) hlen ((Hs0.out.below hbr).below hW) hl)
    subst hA
    clear hno hx hy hr1 hbr hin hiy
    obtain ⟨W1, hW1⟩ : ∃ W1, W1 = wr := ⟨_, rfl⟩
    subst hW1
    go_upto_region 4 with fail
    go_cut [32] (fun t32 wx => t32 = .bool (iy && !atkB l s x) ∧ Below W1.heap.size W1 wx)
    case first =>
      refine wp_region_textB [7, 8, 17] (fun w' => Below W1.heap.size W1 w') (fun _ => True) (by kernel_rfl) (by kernel_rfl) (by kernel_rfl) (Below.refl _ _).drew trivial ?_
      repeat (first
        | (refine TxtBL.skip (by rfl) ?_; simp only [Act.put, List.setIfInBounds_toArray, List.set_cons_zero, List.set_cons_succ])
        | (refine TxtBL.take (by rfl) (by rfl) ?_; apply Exists.intro; refine ⟨fun w1 hS1 => ?_, ?_⟩; (focus ((have g0 := (hS1.cell (lt_of_cell d0)).trans d0; have g1 := (hS1.cell (lt_of_cell d1)).trans d1; have g2 := (hS1.cell (lt_of_cell hc2)).trans hc2; have g3 := (hS1.cell (lt_of_cell hd2)).trans hd2); go_simp; with_reducible rfl)); simp only [Act.put, List.setIfInBounds_toArray, List.set_cons_zero, List.set_cons_succ])
        | (refine TxtBL.takeE (by rfl) (by rfl) ?_; apply Exists.intro; refine ⟨fun w1 hS1 => ?_, ?_⟩; (focus ((have g0 := (hS1.cell (lt_of_cell d0)).trans d0; have g1 := (hS1.cell (lt_of_cell d1)).trans d1; have g2 := (hS1.cell (lt_of_cell hc2)).trans hc2; have g3 := (hS1.cell (lt_of_cell hd2)).trans hd2); go_simp; with_reducible rfl)); simp only [Act.put, List.setIfInBounds_toArray, List.set_cons_zero, List.set_cons_succ]))
      refine TxtBL.call (f := 48) (args := #[.slice B s.length cs, .int .i64 y]) (fun u => u = .bool iy) (fun _ _ => True) (by rfl) (by rfl) ⟨_, rfl⟩ (fun w1 hS1 hJ1 => by go_simp) (fun w1 hS1 hJ1 => ?_) ?_
      · refine (Hin.out w1 hS1).mono ?_
        rintro e w' ⟨rfl, rfl⟩
        exact ⟨_, rfl, hS1, rfl, trivial⟩
      rintro _ rfl
      simp only [Act.put, List.setIfInBounds_toArray, List.set_cons_zero, List.set_cons_succ]
      cases iy
      case false =>
        repeat (first
          | (refine TxtBL.skip (by rfl) ?_; simp only [Act.put, List.setIfInBounds_toArray, List.set_cons_zero, List.set_cons_succ])
          | (refine TxtBL.take (by rfl) (by rfl) ?_; apply Exists.intro; refine ⟨fun w1 hS1 => ?_, ?_⟩; (focus (skip; go_simp; with_reducible rfl)); simp only [Act.put, List.setIfInBounds_toArray, List.set_cons_zero, List.set_cons_succ])
          | (refine TxtBL.takeE (by rfl) (by rfl) ?_; apply Exists.intro; refine ⟨fun w1 hS1 => ?_, ?_⟩; (focus (skip; go_simp; with_reducible rfl)); simp only [Act.put, List.setIfInBounds_toArray, List.set_cons_zero, List.set_cons_succ]))
        refine TxtBL.nil (fun W2 hS2 _ => ?_)
        go_wp2_with fail
        go_meet
        exact ⟨rfl, hS2⟩
      case true =>
        repeat (first
          | (refine TxtBL.skip (by rfl) ?_; simp only [Act.put, List.setIfInBounds_toArray, List.set_cons_zero, List.set_cons_succ])
          | (refine TxtBL.take (by rfl) (by rfl) ?_; apply Exists.intro; refine ⟨fun w1 hS1 => ?_, ?_⟩; (focus ((have g0 := (hS1.cell (lt_of_cell d0)).trans d0; have g1 := (hS1.cell (lt_of_cell d1)).trans d1; have g2 := (hS1.cell (lt_of_cell hc2)).trans hc2; have g3 := (hS1.cell (lt_of_cell hd2)).trans hd2); go_simp; with_reducible rfl)); simp only [Act.put, List.setIfInBounds_toArray, List.set_cons_zero, List.set_cons_succ])
          | (refine TxtBL.takeE (by rfl) (by rfl) ?_; apply Exists.intro; refine ⟨fun w1 hS1 => ?_, ?_⟩; (focus ((have g0 := (hS1.cell (lt_of_cell d0)).trans d0; have g1 := (hS1.cell (lt_of_cell d1)).trans d1; have g2 := (hS1.cell (lt_of_cell hc2)).trans hc2; have g3 := (hS1.cell (lt_of_cell hd2)).trans hd2); go_simp; with_reducible rfl)); simp only [Act.put, List.setIfInBounds_toArray, List.set_cons_zero, List.set_cons_succ]))
        refine TxtBL.call (f := 95) (args := #[.agg #[.int .i64 N, .slice (some ⟨b, o, none⟩) l.length c], .slice B s.length cs, .int .i64 x]) (fun u => u = .bool (atkB l s x)) (fun _ _ => True) (by rfl) (by rfl) ⟨_, rfl⟩ (fun w1 hS1 hJ1 => by go_simp) (fun w1 hS1 hJ1 => ?_) ?_
        · refine (Hatk.out w1 hS1).mono ?_
          rintro e w' ⟨rfl, hb⟩
          exact ⟨_, rfl, hS1.trans (hb.mono hS1.size), rfl, trivial⟩
        rintro _ rfl
        simp only [Act.put, List.setIfInBounds_toArray, List.set_cons_zero, List.set_cons_succ]
        repeat (first
          | (refine TxtBL.skip (by rfl) ?_; simp only [Act.put, List.setIfInBounds_toArray, List.set_cons_zero, List.set_cons_succ])
          | (refine TxtBL.take (by rfl) (by rfl) ?_; apply Exists.intro; refine ⟨fun w1 hS1 => ?_, ?_⟩; (focus (skip; go_simp; with_reducible rfl)); simp only [Act.put, List.setIfInBounds_toArray, List.set_cons_zero, List.set_cons_succ])
          | (refine TxtBL.takeE (by rfl) (by rfl) ?_; apply Exists.intro; refine ⟨fun w1 hS1 => ?_, ?_⟩; (focus (skip; go_simp; with_reducible rfl)); simp only [Act.put, List.setIfInBounds_toArray, List.set_cons_zero, List.set_cons_succ]))
        refine TxtBL.nil (fun W2 hS2 _ => ?_)
        go_wp2_with fail
        go_meet
        exact ⟨rfl, hS2⟩
    obtain ⟨rfl, hS2⟩ := hcut
    have Hb2 := Lib.hid (Hbr.out.trans (hS2.mono Hbr.out.size))
    clear hS2 Hin Hatk d0 d1 hc2 hd2
    cases hh : (iy && !atkB l s x)
    · have Hh : RowKit.Hid ((!inB s l[k].2 || atkB l s l[k].1) = true) := Lib.hid (by rw [Hx.out, Hy.out, Hiy.out]; revert hh; cases iy <;> cases atkB l s x <;> simp)
      clear hh
      go_wp2_with fail
      go_roundw
      case rel => exact ⟨k + 1, by omega, by go_num, all_take_succ (p := fun p => !inB s p.2 || atkB l s p.1) hlt Hno.out Hh.out, Hb2.out⟩
      case measure => simp [intOf]; omega
    · have Hh : RowKit.Hid ((!inB s l[k].2 || atkB l s l[k].1) = false) := Lib.hid (by rw [Hx.out, Hy.out, Hiy.out]; revert hh; cases iy <;> cases atkB l s x <;> simp)
      clear hh
      go_wp2_with fail
      go_ret
      exact ⟨rb (by unfold admB; rw [all_take_bad (p := fun p => !inB s p.2 || atkB l s p.1) hlt Hh.out]; rfl), endB hb0 Hb2.out⟩
theorem bit_test {m : Nat} (hm : m < 18446744073709551616) (i : Nat) : (bits .and .u64 ((m : Int) / 2 ^ i) 1 == 1) = m.testBit i := by
  have e2 : bits .and .u64 ((m >>> i : Nat) : Int) 1 = (((m >>> i) &&& 1 : Nat) : Int) := by
    rcases u64_and_one m i with h | h
    · exact h
    · omega
  rw [u64_shr, e2]
  unfold Nat.testBit
  rw [Nat.and_comm, Nat.one_and_eq_mod_two]
  rcases Nat.mod_two_eq_zero_or_one (m >>> i) with h | h <;> rw [h] <;> rfl
theorem bit_test0 {m : Nat} (hm : m < 18446744073709551616) (i : Nat) : (bits .and .u64 ((m : Int) / 2 ^ i) 1 == 0) = !m.testBit i := by
  have e2 : bits .and .u64 ((m >>> i : Nat) : Int) 1 = (((m >>> i) &&& 1 : Nat) : Int) := by
    rcases u64_and_one m i with h | h
    · exact h
    · omega
  rw [u64_shr, e2]
  unfold Nat.testBit
  rw [Nat.and_comm, Nat.one_and_eq_mod_two]
  rcases Nat.mod_two_eq_zero_or_one (m >>> i) with h | h <;> rw [h] <;> rfl
theorem nodes_succ (m k : Nat) : nodesB (k + 1) m.testBit = nodesB k m.testBit ++ (if m.testBit k then [(k : Int)] else []) := by
  unfold nodesB
  rw [List.range_succ, List.filter_append, List.map_append]
  congr 1
  cases h : m.testBit k <;> simp [h]
theorem nodes_len2 (n : Nat) (f : Nat → Bool) : (nodesB n f).length ≤ n := by
  unfold nodesB
  rw [List.length_map]
  have := List.length_filter_le f (List.range n)
  rwa [List.length_range] at this
set_option maxRecDepth 100000 in
set_option maxHeartbeats 4000000 in
theorem nwMem_any (m : Nat) (hm : m < 18446744073709551616) (w : World) :
    Calls Tryd.prog 31 #[.int .u64 (m : Int)] w (RetI (nodesB 64 m.testBit) w) := by
  have Hm := Lib.hid hm; clear hm
  go_enter Tryd.func31, Tryd.ntmps31
  go_wp2_with fail
  go_loopw [3, 4] (fun v i wr => ∃ k : Nat, k ≤ 64 ∧ i = .int .i64 (k : Int) ∧ OwnI wr w.heap.size v (nodesB k m.testBit) ∧ Below w.heap.size w wr) (fun _ i _ => 64 - (intOf i).toNat)
  case atStart => exact ⟨0, Nat.zero_le _, rfl, OwnI.nil _ _, Below.refl _ _⟩
  case round =>
    obtain ⟨k, hk, rfl, hown, hbl⟩ := hrel
    have Hown := Lib.hid hown; have Hbl := Lib.hid hbl
    by_cases hlt : k < 64
    case neg =>
      have hk64 : k = 64 := by omega
      subst hk64
      clear hown hbl
      go_wp2_with fail
      go_ret
      exact RetI.mk Hown.out Hbl.out
    case pos =>
    have hw : IntKind.u64.wrap (k : Int) = (k : Int) := by rw [IntKind.wrap_u64]; omega
    have hbt := bit_test Hm.out k
    have hsu := nodes_succ m k
    cases hb : m.testBit k
    · rw [hb] at hbt hsu
      have hsu2 : nodesB (k + 1) m.testBit = nodesB k m.testBit := by rw [hsu]; simp
      have Hsu := Lib.hid hsu2
      clear hsu hsu2 hb hown hbl
      go_wp2_with fail
      go_roundw
      case rel => exact ⟨k + 1, by omega, by go_num, by rw [Hsu.out]; exact Hown.out, Hbl.out⟩
      case measure => simp [intOf]; omega
    · rw [hb] at hbt hsu
      have hsu2 : nodesB (k + 1) m.testBit = nodesB k m.testBit ++ [(k : Int)] := by rw [hsu]; simp
      have Hsu := Lib.hid hsu2
      have hsz := hbl.size
      have hl0 := nodes_len2 k m.testBit
      have hl : (nodesB k m.testBit).length ≤ 1000000 := by omega
      clear hsu hsu2 hb hown hbl hl0
      go_wp2_with (at_builtin; refine wpList_appI (by rfl) _ _ (by rfl) wr w.heap.size _ (nodesB k m.testBit) (k : Int) Hown.out (by rfl) (by rfl) hl hsz ?_; intro v' w10 hown10 hb10 hg10; (have Ho10 := Lib.hid hown10); (have Hb10 := Lib.hid (Hbl.out.trans hb10)); clear hown10 hb10 hg10)
      go_roundw
      case rel => exact ⟨k + 1, by omega, by go_num, by rw [Hsu.out]; exact Ho10.out, Hb10.out⟩
      case measure => simp [intOf]; omega
theorem inB_bits {m x : Nat} (hx : x < 64) : inB (nodesB 64 m.testBit) (x : Int) = m.testBit x := by
  rw [Bool.eq_iff_iff, inB_iff, mem_nodesB]
  constructor
  · rintro ⟨i, _, hi, e⟩
    have : x = i := by omega
    subst this; exact hi
  · intro h; exact ⟨x, hx, h, rfl⟩
theorem atk_bits {n : Nat} {l : List (Int × Int)} (hI : InR n l) {m x : Nat} : atkB l (nodesB 64 m.testBit) (x : Int) = hitX n (attQ l) m x := by
  have hn := hI.1
  rw [Bool.eq_iff_iff, hitX_iff]
  unfold atkB
  rw [List.any_eq_true]
  constructor
  · rintro ⟨y, hy, hh⟩
    obtain ⟨i, _, hi, rfl⟩ := mem_nodesB.1 hy
    rw [hasB_att] at hh
    exact ⟨i, (att_lt hI (attQ_iff.1 hh)).1, hi, hh⟩
  · rintro ⟨i, hin, hi, hh⟩
    exact ⟨(i : Int), mem_nodesB.2 ⟨i, by omega, hi, rfl⟩, by rw [hasB_att]; exact hh⟩
theorem fre_bits {n : Nat} {l : List (Int × Int)} (hI : InR n l) {m : Nat} : freB l (nodesB 64 m.testBit) = freeS n (attQ l) m := by
  have hn := hI.1
  rw [Bool.eq_iff_iff, freeS_iff]
  unfold freB
  rw [List.all_eq_true]
  constructor
  · intro h i j hi hj si sj
    have := h (j : Int) (mem_nodesB.2 ⟨j, by omega, sj, rfl⟩)
    rw [Bool.not_eq_true', atk_bits hI] at this
    cases e : attQ l i j
    · rfl
    · rw [hitX_iff.2 ⟨i, hi, si, e⟩] at this; cases this
  · intro h x hx
    obtain ⟨j, _, sj, rfl⟩ := mem_nodesB.1 hx
    rw [Bool.not_eq_true', atk_bits hI, Bool.eq_false_iff]
    intro e
    obtain ⟨i, hi, si, hij⟩ := hitX_iff.1 e
    have hjn := (att_lt hI (attQ_iff.1 hij)).2
    rw [h i j hi hjn si sj] at hij; cases hij
theorem adm_bits {n : Nat} {l : List (Int × Int)} (hI : InR n l) {m : Nat} : admB l (nodesB 64 m.testBit) = true ↔ AdmS n (attQ l) m := by
  have hn := hI.1
  unfold admB
  rw [Bool.and_eq_true, fre_bits hI, List.all_eq_true]
  constructor
  · rintro ⟨h1, h2⟩
    refine ⟨h2, openS_nil.2 fun j hj hf => ?_⟩
    obtain ⟨i, hi, si, hji⟩ := foeS_iff.1 hf
    have := h1 ((j : Int), (i : Int)) (attQ_iff.1 hji)
    rw [inB_bits (by omega), si, atk_bits hI] at this
    simpa using this
  · intro h
    refine ⟨fun p hp => ?_, h.free⟩
    obtain ⟨h0, h1, h2, h3⟩ := hI.2.2 p hp
    obtain ⟨a, ha⟩ := Int.eq_ofNat_of_zero_le h0
    obtain ⟨b, hb⟩ := Int.eq_ofNat_of_zero_le h2
    have hp' : ((a : Int), (b : Int)) ∈ l := by rw [← ha, ← hb]; exact hp
    rw [ha, hb, inB_bits (by omega), atk_bits hI]
    cases e : m.testBit b
    · rfl
    · rw [openS_nil.1 h.defd a (by omega) (foeS_iff.2 ⟨b, by omega, e, attQ_iff.2 hp'⟩)]; rfl
/-- a node is in some admissible set -/
def somB (n : Nat) (l : List (Int × Int)) (a : Nat) : Bool := (List.range (2 ^ n)).any fun m => m.testBit a && admB l (nodesB 64 m.testBit)
theorem som_sr {n : Nat} {l : List (Int × Int)} (hI : InR n l) {a : Nat} (ha : a < n) : somB n l a = (srS n (attQ l) (n + 1) (1 <<< a)).isSome := by
  rw [Bool.eq_iff_iff]
  unfold somB
  rw [List.any_eq_true]
  constructor
  · rintro ⟨m, hm, h⟩
    rw [List.mem_range] at hm
    rw [Bool.and_eq_true, adm_bits hI] at h
    rw [Option.isSome_iff_ne_none]
    exact srS_compl h.2 (fun i hi hb => by
      rw [Nat.one_shiftLeft, Nat.testBit_two_pow] at hb
      rw [← of_decide_eq_true hb]; exact h.1) (cnt_ge _ _)
  · intro h
    obtain ⟨r, hr⟩ := Option.isSome_iff_exists.1 h
    obtain ⟨h1, h2⟩ := srS_sound hr
    have hlt : r < 2 ^ n := srS_lt (by rw [Nat.one_shiftLeft]; exact Nat.pow_lt_pow_right (by omega) ha) hr
    exact ⟨r, List.mem_range.2 hlt, by rw [Bool.and_eq_true, adm_bits hI]; exact ⟨h2 a (by rw [Nat.one_shiftLeft, Nat.testBit_two_pow]; simp), h1⟩⟩
set_option maxRecDepth 100000 in
set_option maxHeartbeats 4000000 in
theorem nwSom_any (A : Option Addr) (n : Nat) (l : List (Int × Int)) (c a : Nat) (w : World) (hn : n ≤ 16) (ha : a < n) (hr : RP w A l) (hlen : l.length ≤ 100000) :
    Calls Tryd.prog 82 #[.agg #[.int .i64 (n : Int), .slice A l.length c], .int .i64 (a : Int), .slice none 0 0] w (RetB (.bool (somB n l a)) w) := by
  have hp16 : 2 ^ n ≤ 65536 := Nat.pow_le_pow_right (by omega) hn
  have hwn : IntKind.u64.wrap (n : Int) = (n : Int) := by rw [IntKind.wrap_u64]; omega
  have hwa : IntKind.u64.wrap (a : Int) = (a : Int) := by rw [IntKind.wrap_u64]; omega
  have hsh : IntKind.u64.wrap (2 ^ n) = ((2 ^ n : Nat) : Int) := by
    have h1 := u64_one_shl n (by omega)
    rw [Int.one_mul, Nat.one_shiftLeft] at h1
    exact h1
  have Hsh := Lib.hid hsh
  clear hsh
  obtain ⟨P, hP⟩ : ∃ P, 2 ^ n = P := ⟨_, rfl⟩
  have hsh : IntKind.u64.wrap (2 ^ n) = (P : Int) := by rw [← hP]; exact Hsh.out
  have HP := Lib.hid hP
  rw [hP] at hp16
  clear hP Hsh
  go_enter Tryd.func82, Tryd.ntmps82
  go_upto_region 1 with fail
  obtain ⟨W0, hW, c0, c1, hb0, hlt0⟩ := boxed w 24 (.int .i64 (n : Int)) (.slice A l.length c)
  rw [hW]
  have Hr0 := Lib.hid (hr.below hb0)
  clear hW hr
  go_wp2_with fail
  go_loopw [7] (fun t7 wx => ∃ m : Nat, m ≤ P ∧ t7 = .int .u64 (m : Int) ∧ ((List.range m).any fun m => m.testBit a && admB l (nodesB 64 m.testBit)) = false ∧ Below W0.heap.size W0 wx) (fun t7 _ => P - (intOf t7).toNat)
  case atStart => exact ⟨0, Nat.zero_le _, rfl, rfl, Below.refl _ _⟩
  case round =>
    obtain ⟨m, hm, rfl, hno, hbr⟩ := hrel
    have Hno := Lib.hid hno; have Hbr := Lib.hid hbr
    have d0 := (hbr.cell (lt_of_cell c0)).trans c0; have d1 := (hbr.cell (lt_of_cell c1)).trans c1
    have hr1 := Hr0.out.below hbr
    have hsz := hbr.size
    have Hr1 := Lib.hid hr1
    clear hno hbr hr1
    by_cases hlt : m < P
    case neg =>
      have hmP : m = P := by omega
      have Hend : RowKit.Hid (somB n l a = false) := Lib.hid (by unfold somB; rw [HP.out, ← hmP]; exact Hno.out)
      clear hmP
      go_wp2_with fail
      go_ret
      exact ⟨rb Hend.out.symm, endB hb0 Hbr.out⟩
    case pos =>
    have hltI : (m : Int) < (P : Int) := by omega
    have hm64 : m < 18446744073709551616 := by omega
    have hw1 : IntKind.u64.wrap ((m : Int) + 1) = ((m + 1 : Nat) : Int) := by rw [IntKind.wrap_u64]; omega
    have hbt := bit_test0 hm64 a
    have hstep : ∀ b, (m.testBit a && admB l (nodesB 64 m.testBit)) = b → b = false → ((List.range (m + 1)).any fun m => m.testBit a && admB l (nodesB 64 m.testBit)) = false := fun b h1 h2 => by
      rw [List.range_succ, List.any_append, Hno.out, List.any_cons, h1, h2]; rfl
    have hhit : (m.testBit a && admB l (nodesB 64 m.testBit)) = true → somB n l a = true := fun h => by
      unfold somB; rw [HP.out]
      exact List.any_eq_true.2 ⟨m, List.mem_range.2 hlt, h⟩
    have hmem := nwMem_any m hm64
    have hll := nodes_len2 64 m.testBit
    obtain ⟨ba, hba⟩ : ∃ ba, m.testBit a = ba := ⟨_, rfl⟩
    obtain ⟨S, hS⟩ : ∃ S, nodesB 64 m.testBit = S := ⟨_, rfl⟩
    rw [hba] at hbt; rw [hS] at hmem hll
    have hstep2 : (ba && admB l S) = false → ((List.range (m + 1)).any fun m => m.testBit a && admB l (nodesB 64 m.testBit)) = false := fun h => hstep (ba && admB l S) (by rw [hba, hS]) h
    have hhit2 : (ba && admB l S) = true → somB n l a = true := fun h => hhit (by rw [hba, hS]; exact h)
    have Hstep := Lib.hid hstep2; have Hhit := Lib.hid hhit2; have Hmem := Lib.hid hmem
    clear hstep hhit hmem hba hS hstep2 hhit2
    cases ba
    case false =>
      clear hll
      go_wp2_with fail
      go_roundw
      case rel => exact ⟨m + 1, by omega, by go_num, Hstep.out rfl, Hbr.out⟩
      case measure => simp [intOf]; omega
    case true =>
    go_wp2_with fail
    refine (Hmem.out wr).mono ?_
    rintro e w2 ⟨AS, cs, rfl, hoS, -, -, hb2⟩
    have HriS := Lib.hid hoS.ri
    have d0 := (hb2.cell (lt_of_cell d0)).trans d0; have d1 := (hb2.cell (lt_of_cell d1)).trans d1
    have Hr2 := Lib.hid (Hr1.out.below hb2)
    have Hbr2 := Lib.hid (Hbr.out.trans (hb2.mono hsz))
    have hsz2 := Hbr2.out.size
    clear hoS hb2 Hr1 Hbr Hmem
    obtain ⟨W2, hW2⟩ : ∃ W2, W2 = w2 := ⟨_, rfl⟩
    subst hW2
    go_wp2_with fail
    go_loopw [9, 10] (fun t9 t10 wx => ∃ k : Nat, k ≤ S.length ∧ t9 = .bool false ∧ t10 = .int .i64 (k : Int) ∧ wx = W2) (fun _ t10 _ => S.length - (intOf t10).toNat)
    case atStart => exact ⟨0, Nat.zero_le _, rfl, rfl, rfl⟩
    case round =>
      obtain ⟨k, hk, rfl, rfl, rfl⟩ := hrel
      by_cases hkS : k < S.length
      case pos =>
        obtain ⟨b, o, rfl, hc⟩ := HriS.out.at_ hkS
        obtain ⟨x, hx⟩ : ∃ x, S[k] = x := ⟨_, rfl⟩
        rw [hx] at hc
        have hin := nwIn_any none [] 0 x wr (RI.nil _ _) (by decide)
        rw [show inB [] x = false from rfl] at hin
        have Hin := Lib.hid hin
        clear hin hx
        go_wp2_with fail
        refine Hin.out.mono ?_
        rintro e w3 ⟨rfl, hw3⟩
        subst hw3
        go_wp2_with fail
        go_roundw
        case rel => exact ⟨k + 1, by omega, rfl, by go_num, trivial⟩
        case measure => simp [intOf]; omega
      case neg =>
        have Hadm := Lib.hid (nwAdm_any A (n : Int) l c AS S cs wr Hr2.out hlen HriS.out (by omega))
        go_wp2_with fail
        refine Hadm.out.mono ?_
        rintro e w3 ⟨rfl, hb3⟩
        have Hb3 := Lib.hid (Hbr2.out.trans (hb3.mono hsz2))
        clear hb3 d0 d1
        cases hadm : admB l S
        · rw [hadm] at Hstep
          clear hadm
          go_wp2_with fail
          go_roundw
          case rel => exact ⟨m + 1, by omega, by go_num, Hstep.out rfl, Hb3.out⟩
          case measure => simp [intOf]; omega
        · rw [hadm] at Hhit
          clear hadm
          go_wp2_with fail
          go_ret
          exact ⟨rb (Hhit.out rfl).symm, endB hb0 Hb3.out⟩
end Go.Proofs.YtncimnfhfomddaaDoor

/- Package deliberationnet: Grounded. Printed by gen_nwg.py. -/
namespace Go.Proofs.YtncimnfhfomddaaDoor
open Go.ChangeShapes Go.WideShapes Go.ChangeAt Go.RowKit

/-- a row of zeros that may be laid already -/
def RwO (o : Option Nat) (m n : Nat) (w : World) : Prop := ∀ q, o = some q → m ≤ q ∧ Row w q n (fun _ => 0)
def RwD (a b : Option Nat) : Prop := ∀ x y, a = some x → b = some y → x ≠ y
section
variable {o : Option Nat} {m n : Nat} {w w' : World}
theorem RwO.no : RwO Option.none m n w := fun q e => by cases e
theorem RwO.new (h : m ≤ w.heap.size) : RwO (some w.heap.size) m n (w.alloc (.cells (madeCells #[.int .i64 0] n) 3)) := fun q e => by
  injection e with e; subst e; exact ⟨h, World.rowIs_made _ _ _ _⟩
theorem RwO.below (h : RwO o m n w) (hb : Below w.heap.size w w') : RwO o m n w' := fun q e => ⟨(h q e).1, rowIs_new (h q e).2 hb⟩
theorem RwD.no : RwD Option.none Option.none := fun x y e => by cases e
theorem RwD.newL (h : RwO o m n w) : RwD (some w.heap.size) o := fun x y e1 e2 => by
  injection e1 with e1; have := World.rowIs.lt (h y e2).2; omega
theorem RwD.newR (h : RwO o m n w) : RwD o (some w.heap.size) := fun x y e1 e2 => by
  injection e2 with e2; have := World.rowIs.lt (h x e1).2; omega
end
/-- what Grounded holds while it goes on -/
structure GN (w : World) (n : Nat) (A : Option Addr) (len c g1 g2 : Nat) (L : Nat → Int) (wr : World) : Prop where
  box : Blk wr w.heap.size 24 #[.int .i64 (n : Int), .slice A len c]
  lab : Row wr g1 n L
  rnk : ∃ R, Row wr g2 n R
  bel : Below w.heap.size w wr
  h1 : w.heap.size < g1
  h2 : w.heap.size < g2
  n12 : g1 ≠ g2
section
variable {w : World} {n : Nat} {A : Option Addr} {len c g1 g2 : Nat} {L : Nat → Int} {wr w' : World}
theorem GN.below (h : GN w n A len c g1 g2 L wr) (hb : Below wr.heap.size wr w') : GN w n A len c g1 g2 L w' :=
  { h with box := h.box.below hb h.box.lt, lab := rowIs_new h.lab hb, rnk := h.rnk.imp fun _ hr => rowIs_new hr hb, bel := h.bel.trans (hb.mono h.bel.size) }
theorem GN.append {B e size k : Nat} {v : Value} {xs : List Value} (h : GN w n A len c g1 g2 L wr) (hB : g1 < B ∧ g2 < B) (ho : wr.ownsRow B e size v k xs) (hg : wr.grownBy w' v.ownBlock) (hb : Below B wr w') : GN w n A len c g1 g2 L w' :=
  { h with box := h.box.append ho hg (Nat.lt_trans h.h1 hB.1), lab := rowIs_append h.lab ho hg hB.1, rnk := h.rnk.imp fun _ hr => rowIs_append hr ho hg hB.2, bel := h.bel.trans (hb.mono (Nat.le_of_lt (Nat.lt_trans h.h1 hB.1))) }
theorem GN.setL (h : GN w n A len c g1 g2 L wr) (i : Nat) (x : Int) : GN w n A len c g1 g2 (upd L i x) (wr.setCell ⟨g1, i, none⟩ (.int .i64 x)) :=
  { h with box := h.box.far (Nat.ne_of_lt h.h1) _, lab := h.lab.set i x, rnk := h.rnk.imp fun _ hr => hr.far (a := ⟨g1, i, none⟩) (fun e => h.n12 e.symm) _, bel := h.bel.setCell (p := ⟨g1, i, none⟩) (Nat.le_of_lt h.h1) _ }
theorem GN.setR (h : GN w n A len c g1 g2 L wr) (i : Nat) (x : Int) : GN w n A len c g1 g2 L (wr.setCell ⟨g2, i, none⟩ (.int .i64 x)) := by
  obtain ⟨R, hr⟩ := h.rnk
  exact { h with box := h.box.far (Nat.ne_of_lt h.h2) _, lab := h.lab.far (a := ⟨g2, i, none⟩) h.n12 _, rnk := ⟨_, hr.set i x⟩, bel := h.bel.setCell (p := ⟨g2, i, none⟩) (Nat.le_of_lt h.h2) _ }
theorem GN.congr {L' : Nat → Int} (h : GN w n A len c g1 g2 L wr) (e : ∀ i, i < n → L i = L' i) : GN w n A len c g1 g2 L' wr := { h with lab := h.lab.congr e }
end
theorem upd_three (i : Nat) : upd (fun j => if j < i then (3 : Int) else 0) i 3 = fun j => if j < i + 1 then 3 else 0 := by
  funext j
  show (if j = i then (3 : Int) else if j < i then 3 else 0) = _
  by_cases h1 : j = i
  · rw [if_pos h1, if_pos (by omega)]
  · rw [if_neg h1]
    by_cases h2 : j < i
    · rw [if_pos h2, if_pos (by omega)]
    · rw [if_neg h2, if_neg (by omega)]
/-- the test whether node a is free, so far -/
def okG (l : List (Int × Int)) (L : Nat → Int) (a b : Nat) : Bool := (L a == 3) && (List.range b).all fun x => !attQ l x a || L x == 2
theorem okG_succ (l : List (Int × Int)) (L : Nat → Int) (a b : Nat) : okG l L a (b + 1) = (okG l L a b && (!attQ l b a || L b == 2)) := by
  unfold okG
  rw [List.range_succ, List.all_append, List.all_cons, List.all_nil, Bool.and_true, Bool.and_assoc]
theorem okG_fin {n : Nat} {l : List (Int × Int)} (hv : InR n l) {L : Nat → Int} {a : Nat} (ha : a < n) : okG l L a n = frB n l L a := by
  rw [Bool.eq_iff_iff, frB_iff hv]
  unfold okG
  rw [Bool.and_eq_true, beq_iff_eq, List.all_eq_true]
  constructor
  · rintro ⟨h1, h2⟩
    refine ⟨ha, h1, fun b hb => ?_⟩
    have := h2 b (List.mem_range.2 (att_lt hv hb).1)
    rw [attQ_iff.2 hb] at this
    simpa using this
  · rintro ⟨_, h1, h2⟩
    refine ⟨h1, fun b _ => ?_⟩
    cases e : attQ l b a
    · rfl
    · rw [h2 b (attQ_iff.1 e)]; rfl
theorem que_succ (n : Nat) (l : List (Int × Int)) (L : Nat → Int) (a : Nat) : nodesB (a + 1) (frB n l L) = nodesB a (frB n l L) ++ (if frB n l L a then [(a : Int)] else []) := by
  unfold nodesB
  rw [List.range_succ, List.filter_append, List.map_append]
  congr 1
  cases h : frB n l L a <;> simp [h]
theorem atk_que {n : Nat} {l : List (Int × Int)} (hv : InR n l) {L : Nat → Int} {b : Nat} (h3 : L b = 3) (hf : frB n l L b = false) : atkB l (queL n l L) (b : Int) = gHitB n l L b := by
  rw [Bool.eq_iff_iff, gHitB_iff hv]
  unfold atkB
  rw [List.any_eq_true]
  constructor
  · rintro ⟨x, hx, hh⟩
    obtain ⟨a, _, hfa, rfl⟩ := mem_nodesB.1 hx
    rw [hasB_att] at hh
    exact ⟨h3, hf, a, attQ_iff.1 hh, hfa⟩
  · rintro ⟨_, _, a, ha, hfa⟩
    exact ⟨(a : Int), mem_nodesB.2 ⟨a, (att_lt hv ha).1, hfa, rfl⟩, by rw [hasB_att]; exact attQ_iff.2 ha⟩
def sixL (n : Nat) (l : List (Int × Int)) (L : Nat → Int) (b : Nat) : Nat → Int := fun j => if frB n l L j then 1 else if decide (j < b) && gHitB n l L j then 2 else L j
theorem six_at (n : Nat) (l : List (Int × Int)) (L : Nat → Int) (b : Nat) : sixL n l L b b = if frB n l L b then 1 else L b := by
  unfold sixL
  rw [decide_eq_false (Nat.lt_irrefl b)]
  simp
theorem six_zero (n : Nat) (l : List (Int × Int)) (L : Nat → Int) : sixL n l L 0 = midL n l L := by
  funext j
  unfold sixL midL
  rw [decide_eq_false (Nat.not_lt_zero j)]
  simp
theorem six_no {n : Nat} {l : List (Int × Int)} {L : Nat → Int} {b : Nat} (h : frB n l L b = true ∨ gHitB n l L b = false) : sixL n l L (b + 1) = sixL n l L b := by
  funext j
  unfold sixL
  by_cases hj : frB n l L j = true
  · rw [if_pos hj, if_pos hj]
  · rw [if_neg hj, if_neg hj]
    by_cases e : j = b
    · subst e
      rcases h with h | h
      · exact absurd h hj
      · rw [h, Bool.and_false, Bool.and_false]
    · have : decide (j < b + 1) = decide (j < b) := by rw [decide_eq_decide]; omega
      rw [this]
theorem six_yes {n : Nat} {l : List (Int × Int)} {L : Nat → Int} {b : Nat} (h1 : frB n l L b = false) (h2 : gHitB n l L b = true) : sixL n l L (b + 1) = upd (sixL n l L b) b 2 := by
  funext j
  show _ = if j = b then 2 else sixL n l L b j
  unfold sixL
  by_cases e : j = b
  · subst e
    rw [if_pos rfl, if_neg (by rw [h1]; decide), h2, decide_eq_true (Nat.lt_succ_self j)]; rfl
  · rw [if_neg e]
    have : decide (j < b + 1) = decide (j < b) := by rw [decide_eq_decide]; omega
    rw [this]
theorem six_fin {n : Nat} {l : List (Int × Int)} {L : Nat → Int} {j : Nat} (hj : j < n) : sixL n l L n j = nxL n l L j := by
  unfold sixL nxL
  rw [decide_eq_true hj, Bool.true_and]
/-- the call returns the labels, and some ranks -/
def RetGL (n : Nat) (l : List (Int × Int)) (w : World) : Ending → World → Prop := fun e w' => ∃ g1 g2, e = .returned (.tuple #[.slice (some ⟨g1, 0, none⟩) n n, .slice (some ⟨g2, 0, none⟩) n n]) ∧ Row w' g1 n (grL n l) ∧ Below w.heap.size w w'

set_option maxRecDepth 100000 in
set_option maxHeartbeats 16000000 in
theorem nwGrd_any (A : Option Addr) (n : Nat) (l : List (Int × Int)) (c : Nat) (w : World) (hr : RP w A l) (hv : InR n l) :
    Calls Tryd.prog 81 #[.agg #[.int .i64 (n : Int), .slice A l.length c]] w (RetGL n l w) := by
  have hn := hv.1; have hlen := hv.2.1
  have hmk := run_make_row' (P := Tryd.prog) 25 3 (.int .i64 0) 8 Tryd.underlying25 info_int rfl .i64 .i64 n (by omega) (by omega)
  have HV := Lib.hid hv; have Hmk := Lib.hid hmk; have Hr := Lib.hid hr
  clear hv hmk hr
  go_enter Tryd.func81, Tryd.ntmps81
  go_upto_region 1 with fail
  obtain ⟨W0, hW, k0, hb0, hs0⟩ := boxA w 24 #[.int .i64 (n : Int), .slice A l.length c]
  rw [hW]
  obtain ⟨c0, c1, -, -⟩ := k0.two
  clear hW
  go_cut [4, 5] (fun t4 t5 wx => ∃ g4 g5, t4 = .slice (some ⟨g4, 0, none⟩) n n ∧ t5 = .slice (some ⟨g5, 0, none⟩) n n ∧ (W0.heap.size ≤ g4 ∧ Row wx g4 n (fun _ => 0)) ∧ (W0.heap.size ≤ g5 ∧ Row wx g5 n (fun _ => 0)) ∧ g4 ≠ g5 ∧ Below W0.heap.size W0 wx)
  case first =>
    refine wp_region_tree [2, 5] (fun w' => Below W0.heap.size W0 w') (fun w' => RwO none W0.heap.size n w' ∧ RwO none W0.heap.size n w' ∧ RwD none none) 8 [0, 1, 2, 3, 4, 5, 6, 7] (by rfl) (by decide) (by kernel_rfl) (by kernel_rfl) (Below.refl _ _).drew ⟨RwO.no, RwO.no, RwD.no⟩ ?_
    refine TxtT.pure 0 (by rfl) (by rw [List.getElem?_toArray]; rfl) (by rfl) (by as_aux_lemma => kernel_rfl) (by rfl) ?_; apply Exists.intro; refine ⟨fun w1 hS1 => ?_, ?_⟩; (focus (skip; go_simp; with_reducible rfl))
    rw [show List.erase [0, 1, 2, 3, 4, 5, 6, 7] 0 = [1, 2, 3, 4, 5, 6, 7] from rfl]; simp only [Act.put, List.setIfInBounds_toArray, List.set_cons_zero, List.set_cons_succ]
    refine TxtT.pure 1 (by rfl) (by rw [List.getElem?_toArray]; rfl) (by rfl) (by as_aux_lemma => kernel_rfl) (by rfl) ?_; apply Exists.intro; refine ⟨fun w1 hS1 => ?_, ?_⟩; (focus ((have g0 := (hS1.cell (lt_of_cell c0)).trans c0); go_simp; with_reducible rfl))
    rw [show List.erase [1, 2, 3, 4, 5, 6, 7] 1 = [2, 3, 4, 5, 6, 7] from rfl]; simp only [Act.put, List.setIfInBounds_toArray, List.set_cons_zero, List.set_cons_succ]
    refine TxtT.pure 3 (by rfl) (by rw [List.getElem?_toArray]; rfl) (by rfl) (by as_aux_lemma => kernel_rfl) (by rfl) ?_; apply Exists.intro; refine ⟨fun w1 hS1 => ?_, ?_⟩; (focus (skip; go_simp; with_reducible rfl))
    rw [show List.erase [2, 3, 4, 5, 6, 7] 3 = [2, 4, 5, 6, 7] from rfl]; simp only [Act.put, List.setIfInBounds_toArray, List.set_cons_zero, List.set_cons_succ]
    refine TxtT.pure 4 (by rfl) (by rw [List.getElem?_toArray]; rfl) (by rfl) (by as_aux_lemma => kernel_rfl) (by rfl) ?_; apply Exists.intro; refine ⟨fun w1 hS1 => ?_, ?_⟩; (focus ((have g0 := (hS1.cell (lt_of_cell c0)).trans c0); go_simp; with_reducible rfl))
    rw [show List.erase [2, 4, 5, 6, 7] 4 = [2, 5, 6, 7] from rfl]; simp only [Act.put, List.setIfInBounds_toArray, List.set_cons_zero, List.set_cons_succ]
    refine TxtT.two 2 5 (by as_aux_lemma => kernel_rfl) (by rw [List.getElem?_toArray]; rfl) (by rw [List.getElem?_toArray]; rfl) (by rfl) (by rfl) (by rfl) (by rfl) (fun v => ∃ q, v = Value.slice (some ⟨q, 0, none⟩) n n) (fun v w' => ∃ q, v = Value.slice (some ⟨q, 0, none⟩) n n ∧ RwO (some q) W0.heap.size n w' ∧ RwO none W0.heap.size n w' ∧ RwD (some q) none) (fun v => ∃ q, v = Value.slice (some ⟨q, 0, none⟩) n n) (fun v w' => ∃ q, v = Value.slice (some ⟨q, 0, none⟩) n n ∧ RwO none W0.heap.size n w' ∧ RwO (some q) W0.heap.size n w' ∧ RwD none (some q)) (fun w1 hS1 hJ1 => ?_) (fun w1 hS1 hJ1 => ?_) ?_ ?_
    · have hmk := Hmk.out
      exact Eff.value (w' := w1.alloc (.cells (madeCells #[.int .i64 0] n) 3)) (v := .slice (some ⟨w1.heap.size, 0, none⟩) n n) (by go_simp) ⟨hS1.trans ((newB w1 _).mono hS1.size), ⟨_, rfl⟩, _, rfl, RwO.new hS1.size, hJ1.2.1.below (newB _ _), RwD.newL hJ1.2.1⟩
    · have hmk := Hmk.out
      exact Eff.value (w' := w1.alloc (.cells (madeCells #[.int .i64 0] n) 3)) (v := .slice (some ⟨w1.heap.size, 0, none⟩) n n) (by go_simp) ⟨hS1.trans ((newB w1 _).mono hS1.size), ⟨_, rfl⟩, _, rfl, hJ1.1.below (newB _ _), RwO.new hS1.size, RwD.newR hJ1.1⟩
    ·
      rintro _ ⟨g4, rfl⟩
      rw [show List.erase [2, 5, 6, 7] 2 = [5, 6, 7] from rfl]; simp only [Act.put, List.setIfInBounds_toArray, List.set_cons_zero, List.set_cons_succ]
      refine TxtT.weakJ (J2 := fun w' => RwO (some g4) W0.heap.size n w' ∧ RwO none W0.heap.size n w' ∧ RwD (some g4) none) (fun w1 h => by obtain ⟨q', hq, h⟩ := h; injection hq with hq; injection hq with hq; injection hq with hq _ _; subst hq; exact h) ?_
      refine TxtT.pure 6 (by rfl) (by rw [List.getElem?_toArray]; rfl) (by rfl) (by as_aux_lemma => kernel_rfl) (by rfl) ?_; apply Exists.intro; refine ⟨fun w1 hS1 => ?_, ?_⟩; (focus (skip; go_simp; with_reducible rfl))
      rw [show List.erase [5, 6, 7] 6 = [5, 7] from rfl]; simp only [Act.put, List.setIfInBounds_toArray, List.set_cons_zero, List.set_cons_succ]
      refine TxtT.one 5 (by as_aux_lemma => kernel_rfl) (by rw [List.getElem?_toArray]; rfl) (by rfl) (by rfl) (fun v => ∃ q, v = Value.slice (some ⟨q, 0, none⟩) n n) (fun v w' => ∃ q, v = Value.slice (some ⟨q, 0, none⟩) n n ∧ RwO (some g4) W0.heap.size n w' ∧ RwO (some q) W0.heap.size n w' ∧ RwD (some g4) (some q)) (fun w1 hS1 hJ1 => ?_) ?_
      · have hmk := Hmk.out
        exact Eff.value (w' := w1.alloc (.cells (madeCells #[.int .i64 0] n) 3)) (v := .slice (some ⟨w1.heap.size, 0, none⟩) n n) (by go_simp) ⟨hS1.trans ((newB w1 _).mono hS1.size), ⟨_, rfl⟩, _, rfl, hJ1.1.below (newB _ _), RwO.new hS1.size, RwD.newR hJ1.1⟩
      rintro _ ⟨g5, rfl⟩
      rw [show List.erase [5, 7] 5 = [7] from rfl]; simp only [Act.put, List.setIfInBounds_toArray, List.set_cons_zero, List.set_cons_succ]
      refine TxtT.weakJ (J2 := fun w' => RwO (some g4) W0.heap.size n w' ∧ RwO (some g5) W0.heap.size n w' ∧ RwD (some g4) (some g5)) (fun w1 h => by obtain ⟨q', hq, h⟩ := h; injection hq with hq; injection hq with hq; injection hq with hq _ _; subst hq; exact h) ?_
      refine TxtT.pure 7 (by rfl) (by rw [List.getElem?_toArray]; rfl) (by rfl) (by as_aux_lemma => kernel_rfl) (by rfl) ?_; apply Exists.intro; refine ⟨fun w1 hS1 => ?_, ?_⟩; (focus (skip; go_simp; with_reducible rfl))
      rw [show List.erase [7] 7 = [] from rfl]; simp only [Act.put, List.setIfInBounds_toArray, List.set_cons_zero, List.set_cons_succ]
      refine ⟨rfl, fun w1 hS1 hJ1 => ?_⟩
      go_wp2_with fail
      go_meet
      exact ⟨g4, g5, rfl, rfl, hJ1.1 g4 rfl, hJ1.2.1 g5 rfl, hJ1.2.2 g4 g5 rfl rfl, hS1⟩
    ·
      rintro _ ⟨g5, rfl⟩
      rw [show List.erase [2, 5, 6, 7] 5 = [2, 6, 7] from rfl]; simp only [Act.put, List.setIfInBounds_toArray, List.set_cons_zero, List.set_cons_succ]
      refine TxtT.weakJ (J2 := fun w' => RwO none W0.heap.size n w' ∧ RwO (some g5) W0.heap.size n w' ∧ RwD none (some g5)) (fun w1 h => by obtain ⟨q', hq, h⟩ := h; injection hq with hq; injection hq with hq; injection hq with hq _ _; subst hq; exact h) ?_
      refine TxtT.one 2 (by as_aux_lemma => kernel_rfl) (by rw [List.getElem?_toArray]; rfl) (by rfl) (by rfl) (fun v => ∃ q, v = Value.slice (some ⟨q, 0, none⟩) n n) (fun v w' => ∃ q, v = Value.slice (some ⟨q, 0, none⟩) n n ∧ RwO (some q) W0.heap.size n w' ∧ RwO (some g5) W0.heap.size n w' ∧ RwD (some q) (some g5)) (fun w1 hS1 hJ1 => ?_) ?_
      · have hmk := Hmk.out
        exact Eff.value (w' := w1.alloc (.cells (madeCells #[.int .i64 0] n) 3)) (v := .slice (some ⟨w1.heap.size, 0, none⟩) n n) (by go_simp) ⟨hS1.trans ((newB w1 _).mono hS1.size), ⟨_, rfl⟩, _, rfl, RwO.new hS1.size, hJ1.2.1.below (newB _ _), RwD.newL hJ1.2.1⟩
      rintro _ ⟨g4, rfl⟩
      rw [show List.erase [2, 6, 7] 2 = [6, 7] from rfl]; simp only [Act.put, List.setIfInBounds_toArray, List.set_cons_zero, List.set_cons_succ]
      refine TxtT.weakJ (J2 := fun w' => RwO (some g4) W0.heap.size n w' ∧ RwO (some g5) W0.heap.size n w' ∧ RwD (some g4) (some g5)) (fun w1 h => by obtain ⟨q', hq, h⟩ := h; injection hq with hq; injection hq with hq; injection hq with hq _ _; subst hq; exact h) ?_
      refine TxtT.pure 6 (by rfl) (by rw [List.getElem?_toArray]; rfl) (by rfl) (by as_aux_lemma => kernel_rfl) (by rfl) ?_; apply Exists.intro; refine ⟨fun w1 hS1 => ?_, ?_⟩; (focus (skip; go_simp; with_reducible rfl))
      rw [show List.erase [6, 7] 6 = [7] from rfl]; simp only [Act.put, List.setIfInBounds_toArray, List.set_cons_zero, List.set_cons_succ]
      refine TxtT.pure 7 (by rfl) (by rw [List.getElem?_toArray]; rfl) (by rfl) (by as_aux_lemma => kernel_rfl) (by rfl) ?_; apply Exists.intro; refine ⟨fun w1 hS1 => ?_, ?_⟩; (focus (skip; go_simp; with_reducible rfl))
      rw [show List.erase [7] 7 = [] from rfl]; simp only [Act.put, List.setIfInBounds_toArray, List.set_cons_zero, List.set_cons_succ]
      refine ⟨rfl, fun w1 hS1 hJ1 => ?_⟩
      go_wp2_with fail
      go_meet
      exact ⟨g4, g5, rfl, rfl, hJ1.1 g4 rfl, hJ1.2.1 g5 rfl, hJ1.2.2 g4 g5 rfl rfl, hS1⟩
  obtain ⟨g4, g5, rfl, rfl, ⟨h4, r4⟩, ⟨h5, r5⟩, h45, hS⟩ := hcut
  have hG0 : GN w n A l.length c g4 g5 (fun _ => 0) wc :=
    { box := k0.below hS k0.lt, lab := r4, rnk := ⟨_, r5⟩, bel := endB hb0 hS, h1 := by omega, h2 := by omega, n12 := h45 }
  have HG0 := Lib.hid hG0
  clear hG0 r4 r5 k0 c0 c1 hb0 hS h4 h5 hs0
  go_upto_block 0 with fail
  go_cut [6] (fun _ wx => GN w n A l.length c g4 g5 (fun _ => 3) wx)
  case first =>
    go_wp2_with fail
    go_loopw [6] (fun t6 wx => ∃ i : Nat, i ≤ n ∧ t6 = .int .i64 (i : Int) ∧ GN w n A l.length c g4 g5 (fun j => if j < i then 3 else 0) wx) (fun t6 _ => n - (intOf t6).toNat)
    case atStart => exact ⟨0, Nat.zero_le _, rfl, HG0.out.congr fun i _ => by simp⟩
    case round =>
      obtain ⟨i, hi, rfl, hG⟩ := hrel
      have HG := Lib.hid hG
      have d0 := hG.box.two.1
      by_cases hin : i < n
      case neg =>
        clear hG
        go_wp2_with fail
        go_meet
        exact HG.out.congr fun j hj => if_pos (by omega)
      case pos =>
      have hii : (i : Int) < (n : Int) := by omega
      have hc4 := hG.lab.cell hin
      have hz4 := hG.lab.frozen i
      clear hG
      go_wp2_with fail
      go_roundw
      case rel => exact ⟨i + 1, by omega, by go_num, by rw [← upd_three i]; exact HG.out.setL i 3⟩
      case measure => simp [intOf]; omega
  have HG1 := Lib.hid hcut
  clear hcut
  go_wp2_with fail
  go_loopw [7] (fun t7 wx => ∃ r rr : Nat, rr = r + 1 ∧ r ≤ n + 1 ∧ t7 = .int .i64 (rr : Int) ∧ GN w n A l.length c g4 g5 (stL n l r) wx) (fun t7 _ => n + 2 - (intOf t7).toNat)
  case atStart => exact ⟨0, 1, rfl, Nat.zero_le _, rfl, HG1.out⟩
  case round =>
    obtain ⟨r, rr, hrr, hrn, rfl, hG⟩ := hrel
    have Hrr := Lib.hid hrr
    have HG := Lib.hid hG
    have d0 := hG.box.two.1
    have hg4 := hG.lab.lt
    have hg5 : g5 < wr.heap.size := by obtain ⟨R, hR⟩ := hG.rnk; exact hR.lt
    have hwr : IntKind.i64.wrap ((n : Int) + 1) = (n : Int) + 1 := by rw [IntKind.wrap_i64]; omega
    by_cases hlt : r < n + 1
    case neg =>
      have hre : r = n + 1 := by omega
      have hd : decide ((rr : Int) ≤ (n : Int) + 1) = false := by rw [decide_eq_false_iff_not]; omega
      have hfin : ∀ i, i < n → stL n l r i = grL n l i := fun i _ => by
        have h := (rest_next HV.out (gr_rest HV.out)).1
        rw [hre]
        exact congrFun h i
      have Hfin := Lib.hid (HG.out.congr hfin)
      clear hG hre hfin hlt hrr hrn
      go_wp2_with fail
      go_ret2
      exact ⟨g4, g5, rfl, Hfin.out.lab, Hfin.out.bel⟩
    case pos =>
    have hd : decide ((rr : Int) ≤ (n : Int) + 1) = true := by rw [decide_eq_true_iff]; omega
    obtain ⟨L, hL⟩ : ∃ L, stL n l r = L := ⟨_, rfl⟩
    rw [hL] at HG
    have HLs : RowKit.Hid (stL n l (r + 1) = nxL n l L) := Lib.hid (by rw [← hL]; rfl)
    obtain ⟨M, hM⟩ : ∃ M, wr.heap.size = M := ⟨_, rfl⟩
    rw [hM] at hg4 hg5
    have hMr : M ≤ wr.heap.size := by omega
    have hrr2 : rr ≤ n + 1 := by omega
    clear hG hL hM hlt hrr
    go_upto_block 4 with fail
    go_cut [8] (fun t8 wx => ∃ A8 c8, t8 = .slice A8 (queL n l L).length c8 ∧ OwnI wx M (.slice A8 (queL n l L).length c8) (queL n l L) ∧ GN w n A l.length c g4 g5 L wx)
    case first =>
      clear d0 hd hwr
      go_wp2_with fail
      go_loopw [8, 9] (fun t8 t9 wx => ∃ a : Nat, a ≤ n ∧ t9 = .int .i64 (a : Int) ∧ OwnI wx M t8 (nodesB a (frB n l L)) ∧ GN w n A l.length c g4 g5 L wx ∧ M ≤ wx.heap.size) (fun _ t9 _ => n - (intOf t9).toNat)
      case atStart => exact ⟨0, Nat.zero_le _, rfl, OwnI.nil _ _, HG.out, hMr⟩
      case round =>
        obtain ⟨a, ha, rfl, hown, hG, hMs⟩ := hrel
        have HG3 := Lib.hid hG; have Hown := Lib.hid hown
        have d0 := hG.box.two.1
        by_cases han : a < n
        case neg =>
          have hqq : nodesB a (frB n l L) = queL n l L := by unfold queL; rw [show a = n by omega]
          obtain ⟨A8, c8, e8, -⟩ := OwnI.form hown
          rw [hqq] at e8 hown
          subst e8
          have HQ := Lib.hid hown
          clear hG hown hqq
          go_wp2_with fail
          go_meet
          exact ⟨A8, c8, rfl, HQ.out, HG3.out⟩
        case pos =>
        have han' : (a : Int) < (n : Int) := by omega
        have hc4 := hG.lab.cell han
        have hok0 : okG l L a 0 = (L a == 3) := by unfold okG; simp
        obtain ⟨o0, ho0⟩ : ∃ o0, (L a == 3) = o0 := ⟨_, rfl⟩
        have hfz : (L a == 3) = o0 := ho0
        rw [ho0] at hok0
        have Hok0 := Lib.hid hok0
        clear hG hown hok0 ho0
        go_upto_block 6 with fail
        clear hc4 hfz d0
        obtain ⟨W3, hW3⟩ : ∃ W3, W3 = wr := ⟨_, rfl⟩
        subst hW3
        go_cut [10] (fun t10 wx => t10 = .bool (frB n l L a) ∧ Below W3.heap.size W3 wx)
        case first =>
          go_wp2_with fail
          go_loopw [10, 11] (fun t10 t11 wx => ∃ b : Nat, b ≤ n ∧ t10 = .bool (okG l L a b) ∧ t11 = .int .i64 (b : Int) ∧ Below W3.heap.size W3 wx) (fun _ t11 _ => n - (intOf t11).toNat)
          case atStart => exact ⟨0, Nat.zero_le _, by rw [Hok0.out], rfl, Below.refl _ _⟩
          case round =>
            obtain ⟨b, hb, rfl, rfl, hbr⟩ := hrel
            have hG := HG3.out.below hbr
            have d0 := hG.box.two.1; have d1 := hG.box.two.2.1
            have Hbr := Lib.hid hbr
            have hsz := hbr.size
            by_cases hbn : b < n
            case neg =>
              have hbe : b = n := by omega
              have Hfin : RowKit.Hid (okG l L a b = frB n l L a) := Lib.hid (by rw [hbe]; exact okG_fin HV.out han)
              clear hG hbr hbe d1
              go_wp2_with fail
              go_meet
              exact ⟨by rw [Hfin.out], Hbr.out⟩
            case pos =>
            have hbn' : (b : Int) < (n : Int) := by omega
            have hcb := hG.lab.cell hbn
            have hhas := gnHas_any A (n : Int) l c (b : Int) (a : Int) wr (Hr.out.below hG.bel) hlen
            rw [hasB_att] at hhas
            have hsu := okG_succ l L a b
            obtain ⟨ob, hob⟩ : ∃ ob, okG l L a b = ob := ⟨_, rfl⟩
            obtain ⟨ab, hab⟩ : ∃ ab, attQ l b a = ab := ⟨_, rfl⟩
            obtain ⟨eb, heb⟩ : ∃ eb, (L b == 2) = eb := ⟨_, rfl⟩
            rw [hob, hab, heb] at hsu
            rw [hab] at hhas
            rw [hob]
            have Hsu := Lib.hid hsu; have Hhas := Lib.hid hhas
            clear hsu hhas hob hab hG hbr
            cases ob
            case false =>
              clear d1 hcb heb
              go_wp2_with fail
              go_roundw
              case rel => exact ⟨b + 1, by omega, by rw [Hsu.out]; rfl, by go_num, Hbr.out⟩
              case measure => simp [intOf]; omega
            case true =>
            go_wp2_with fail
            refine Hhas.out.mono ?_
            rintro e w5 ⟨rfl, hb5⟩
            have hcb := (hb5.cell (lt_of_cell hcb)).trans hcb
            have Hb5 := Lib.hid (Hbr.out.trans (hb5.mono hsz))
            clear hb5 Hhas d0 d1
            cases ab
            case false =>
              clear hcb heb
              go_wp2_with fail
              go_roundw
              case rel => exact ⟨b + 1, by omega, by rw [Hsu.out]; rfl, by go_num, Hb5.out⟩
              case measure => simp [intOf]; omega
            case true =>
              go_wp2_with fail
              go_roundw
              case rel => exact ⟨b + 1, by omega, by rw [Hsu.out]; rfl, by go_num, Hb5.out⟩
              case measure => simp [intOf]; omega
        obtain ⟨rfl, hb3⟩ := hcut
        have hG4 := HG3.out.below hb3
        have hown4 := OwnI.below Hown.out hb3
        have hMc := Nat.le_trans hMs hb3.size
        have HG4 := Lib.hid hG4; have Hown4 := Lib.hid hown4
        have hsu := que_succ n l L a
        have hl0 : (nodesB a (frB n l L)).length ≤ 1000000 := by have := nodes_len2 a (frB n l L); omega
        clear hG4 hown4 hb3 HG3 Hown
        cases hf : frB n l L a
        case false =>
          rw [hf] at hsu
          have Hsu : RowKit.Hid (nodesB (a + 1) (frB n l L) = nodesB a (frB n l L)) := Lib.hid (by rw [hsu]; simp)
          clear hsu hf
          go_wp2_with fail
          go_roundw
          case rel => exact ⟨a + 1, by omega, by go_num, by rw [Hsu.out]; exact Hown4.out, HG4.out, hMc⟩
          case measure => simp [intOf]; omega
        case true =>
          rw [hf] at hsu
          have Hsu : RowKit.Hid (nodesB (a + 1) (frB n l L) = nodesB a (frB n l L) ++ [(a : Int)]) := Lib.hid (by rw [hsu]; simp)
          clear hsu hf
          go_wp2_with (at_builtin; refine wpList_appI (by rfl) _ _ (by rfl) wc M _ (nodesB a (frB n l L)) (a : Int) Hown4.out (by rfl) (by rfl) hl0 hMc ?_; intro v' w10 hown10 hb10 hg10; (have Ho10 := Lib.hid hown10); (have HG10 := Lib.hid (HG4.out.append ⟨hg4, hg5⟩ Hown4.out hg10 hb10)); (have hM10 := Nat.le_trans hMc hb10.size); clear hown10 hb10 hg10)
          go_roundw
          case rel => exact ⟨a + 1, by omega, by go_num, by rw [Hsu.out]; exact Ho10.out, HG10.out, hM10⟩
          case measure => simp [intOf]; omega
    obtain ⟨A8, c8, rfl, hown8, hG8⟩ := hcut
    have Hown8 := Lib.hid hown8; have HG8 := Lib.hid hG8
    have hnow := nodes_len2 n (frB n l L)
    have hqn : (queL n l L).length ≤ n := hnow
    have hqx : ∀ q (h : q < (queL n l L).length), ∃ j : Nat, j < n ∧ (queL n l L)[q] = (j : Int) := fun q h => by
      obtain ⟨j, h1, _, h3⟩ := mem_nodesB.1 (List.getElem_mem h : (queL n l L)[q] ∈ nodesB n (frB n l L))
      exact ⟨j, h1, h3⟩
    have hqall := setQ_all (queL_que n l L) 1 L
    obtain ⟨Q, hQ⟩ : ∃ Q, queL n l L = Q := ⟨_, rfl⟩
    rw [hQ] at Hown8 hqn hqx hqall
    rw [hQ]
    have HQ := Lib.hid hQ; have Hqx := Lib.hid hqx; have Hqall := Lib.hid hqall
    clear hown8 hG8 hnow hqx hqall hQ d0 hd hwr
    go_upto_block 8 with fail
    go_cut [76] (fun _ wx => OwnI wx M (.slice A8 Q.length c8) Q ∧ GN w n A l.length c g4 g5 (midL n l L) wx)
    case first =>
      go_wp2_with fail
      go_loopw [76] (fun t76 wx => ∃ q : Nat, q ≤ Q.length ∧ t76 = .int .i64 (q : Int) ∧ OwnI wx M (.slice A8 Q.length c8) Q ∧ GN w n A l.length c g4 g5 (setQ (Q.take q) 1 L) wx) (fun t76 _ => Q.length - (intOf t76).toNat)
      case atStart => exact ⟨0, Nat.zero_le _, rfl, Hown8.out, by rw [show Q.take 0 = [] from rfl, setQ_nil]; exact HG8.out⟩
      case round =>
        obtain ⟨q, hq, rfl, hown, hG⟩ := hrel
        have Hown := Lib.hid hown; have HG5 := Lib.hid hG
        by_cases hqy : q < Q.length
        case neg =>
          have Hmid : RowKit.Hid (GN w n A l.length c g4 g5 (midL n l L) wr) := Lib.hid (hG.congr fun i _ => by
            rw [List.take_of_length_le (by omega), Hqall.out]; rfl)
          clear hown hG
          go_wp2_with fail
          go_meet
          exact ⟨Hown.out, Hmid.out⟩
        case pos =>
        obtain ⟨j, hjn, hj⟩ := Hqx.out q hqy
        obtain ⟨b7, o7, rfl, hc7⟩ := hown.ri.at_ (k := q) hqy
        rw [hj] at hc7
        have hj0 : (0 : Int) ≤ (j : Int) := by omega
        have hjn' : (j : Int) < (n : Int) := by omega
        have hst := setQ_step (x := 1) (L := L) hqy hj
        have hc4 := hG.lab.cell hjn
        have hz4 := hG.lab.frozen j
        obtain ⟨R5, hR5⟩ := (hG.setL j 1).rnk
        have hc5 := hR5.cell hjn
        have hz5 := hR5.frozen j
        have HG6 := Lib.hid ((hG.setL j 1).setR j (rr : Int))
        have Hown6 := Lib.hid (OwnI.farB (OwnI.farB hown (a := ⟨g4, j, none⟩) (by show g4 < M; omega) (.int .i64 1)) (a := ⟨g5, j, none⟩) (by show g5 < M; omega) (.int .i64 (rr : Int)))
        have Hst := Lib.hid hst
        clear hown hG hst hR5 hj
        go_wp2_with fail
        go_roundw
        case rel => exact ⟨q + 1, by omega, by go_num, Hown6.out, by rw [Hst.out]; exact HG6.out⟩
        case measure => simp [intOf]; omega
    obtain ⟨hown9, hG9⟩ := hcut
    have Hown9 := Lib.hid hown9; have HG9 := Lib.hid hG9
    clear hown9 hG9
    go_wp2_with fail
    go_loopw [14] (fun t14 wx => ∃ b : Nat, b ≤ n ∧ t14 = .int .i64 (b : Int) ∧ OwnI wx M (.slice A8 Q.length c8) Q ∧ GN w n A l.length c g4 g5 (sixL n l L b) wx) (fun t14 _ => n - (intOf t14).toNat)
    case atStart => exact ⟨0, Nat.zero_le _, rfl, Hown9.out, by rw [six_zero]; exact HG9.out⟩
    case round =>
      obtain ⟨b, hb, rfl, hown, hG⟩ := hrel
      have Hown := Lib.hid hown; have HG5 := Lib.hid hG
      have d0 := hG.box.two.1; have d1 := hG.box.two.2.1
      by_cases hbn : b < n
      case neg =>
        have Hfin : RowKit.Hid (GN w n A l.length c g4 g5 (nxL n l L) wr) := Lib.hid (hG.congr fun i hi => by rw [show b = n by omega]; exact six_fin hi)
        clear hown hG d1
        go_wp2_with fail
        go_roundw
        case rel => exact ⟨r + 1, rr + 1, by rw [Hrr.out], by have := Hrr.out; omega, by go_num, by rw [HLs.out]; exact Hfin.out⟩
        case measure => simp [intOf]; omega
      case pos =>
      have hbn' : (b : Int) < (n : Int) := by omega
      have hcb := hG.lab.cell hbn
      have hzb := hG.lab.frozen b
      rw [six_at] at hcb
      have hatk := nwAtk_any A (n : Int) l c A8 Q c8 (b : Int) wr (Hr.out.below hG.bel) hlen hown.ri (by omega)
      by_cases h3 : frB n l L b = false ∧ L b = 3
      case neg =>
        have hno : frB n l L b = true ∨ gHitB n l L b = false := by
          cases e : frB n l L b
          · right
            rw [Bool.eq_false_iff]
            intro hh
            exact h3 ⟨e, ((gHitB_iff HV.out).1 hh).1⟩
          · exact .inl rfl
        have Hno := Lib.hid (six_no hno)
        obtain ⟨y, hy⟩ : ∃ y, (if frB n l L b then (1 : Int) else L b) = y := ⟨_, rfl⟩
        have hy3 : (y == 3) = false := by
          rw [beq_eq_false_iff_ne, ← hy]
          split
          · decide
          · intro e
            exact h3 ⟨by simpa using (by assumption : ¬ frB n l L b = true), e⟩
        rw [hy] at hcb
        clear hown hG hy h3 hno hatk d1
        go_wp2_with fail
        go_roundw
        case rel => exact ⟨b + 1, by omega, by go_num, Hown.out, by rw [Hno.out]; exact HG5.out⟩
        case measure => simp [intOf]; omega
      case pos =>
      obtain ⟨hf, hLb⟩ := h3
      rw [if_neg (by rw [hf]; decide), hLb] at hcb
      rw [← HQ.out] at hatk
      rw [atk_que HV.out hLb hf, HQ.out] at hatk
      cases hh : gHitB n l L b
      case false =>
        rw [hh] at hatk
        have Hatk := Lib.hid hatk; have Hno := Lib.hid (six_no (.inr hh))
        clear hown hG hatk hh hf hLb
        go_wp2_with fail
        refine Hatk.out.mono ?_
        rintro e w6 ⟨rfl, hb6⟩
        have HG6 := Lib.hid (HG5.out.below hb6); have Hown6 := Lib.hid (OwnI.below Hown.out hb6)
        clear hb6 d0 d1 hcb hzb
        go_wp2_with fail
        go_roundw
        case rel => exact ⟨b + 1, by omega, by go_num, Hown6.out, by rw [Hno.out]; exact HG6.out⟩
        case measure => simp [intOf]; omega
      case true =>
        rw [hh] at hatk
        have Hatk := Lib.hid hatk; have Hyes := Lib.hid (six_yes hf hh)
        clear hown hG hatk hh hf hLb
        go_wp2_with fail
        refine Hatk.out.mono ?_
        rintro e w6 ⟨rfl, hb6⟩
        have hG6 := HG5.out.below hb6
        have Hown6 := Lib.hid (OwnI.below Hown.out hb6)
        have hc4 := hG6.lab.cell hbn
        have hz4 := hG6.lab.frozen b
        obtain ⟨R5, hR5⟩ := (hG6.setL b 2).rnk
        have hc5 := hR5.cell hbn
        have hz5 := hR5.frozen b
        have HG7 := Lib.hid ((hG6.setL b 2).setR b (rr : Int))
        have Hown7 := Lib.hid (OwnI.farB (OwnI.farB Hown6.out (a := ⟨g4, b, none⟩) (by show g4 < M; omega) (.int .i64 2)) (a := ⟨g5, b, none⟩) (by show g5 < M; omega) (.int .i64 (rr : Int)))
        clear hb6 d0 d1 hcb hzb hG6 hR5
        go_wp2_with fail
        go_roundw
        case rel => exact ⟨b + 1, by omega, by go_num, Hown7.out, by rw [Hyes.out]; exact HG7.out⟩
        case measure => simp [intOf]; omega
end Go.Proofs.YtncimnfhfomddaaDoor
