import Derived.Test.YtkflanjlnbdkmaaGreatDoorDynP
import Derived.Test.YtkflanjlnbdkmaaGreatDoorGenM
import Derived.Lib.SliceRun
import Derived.Test.YtkflanjlnbdkmaaGreatDoorTxtZ
import Derived.Test.YtkflanjlnbdkmaaGreatDoorGnd
import Derived.Test.YtkflanjlnbdkmaaGreatDoorG10
/- Copies of slices; equal slices of numbers; an append of pairs. -/
namespace Go.Proofs.YtkflanjlnbdkmaaGreatDoor
open Go.ChangeShapes Go.WideShapes Go.ChangeAt Go.RowKit

set_option maxRecDepth 100000 in
/-- 'out = append(out, xs...)', out a slice of pairs of the call's own -/
theorem wpList_appPs {ops : Array Oper} {rest : List Oper} {o : Oper} {a : Act} {Q : Exit → Act → World → Prop} (hgd : o.guard = none) (s x : Operand)
    (ho : o.op = .call { callee := .builtin .append, args := #[s, x], argTypes := #[22, 22] })
    (X : World) (base : Nat) (v : Value) (l : List (Int × Int)) (B : Option Addr) (l2 : List (Int × Int)) (c : Nat) (hown : OwnP X base v l) (hr : RP X B l2) (hB : B = none → l2 = [] ∧ c = 0) (hs : a.eval s = v) (hx : a.eval x = .slice B l2.length c)
    (hlen : l.length + l2.length ≤ 1000000) (hbase : base ≤ X.heap.size)
    (h : ∀ v' w', OwnP w' base v' (l ++ l2) → Below base X w' → X.grownBy w' v.ownBlock → wpList Tryz.prog ops Q rest (a.put o.dst v') w') :
    wpList Tryz.prog ops Q (o :: rest) a X := by
  obtain ⟨i0, hi, hz0, hz1, hz2⟩ := info_parts info_pair
  cases B with
  | none =>
    obtain ⟨rfl, rfl⟩ := hB rfl
    refine wpList_append_own_none hgd s x 22 ho base 54 i0 2 Tryz.underlying22 hi v l.length _ hs hown hx (h v X ?_ (Below.refl _ _) (grownBy_refl _ _))
    rw [List.append_nil]; exact hown
  | some ad =>
    refine wpList_append_own _ hgd s x 22 ho base 54 i0 (.agg #[.int .i64 0, .int .i64 0]) 2 16 Tryz.underlying22 hi hz0 hz1 hz2 rfl (by decide) v l.length _ hs hown ad l2.length c (flatP l2) hx (flatP_length l2) (fun j u hu => ?_)
      (by
        intro u hu
        unfold flatP at hu
        rw [List.mem_flatMap] at hu
        obtain ⟨y, _, hy⟩ := hu
        simp at hy
        rcases hy with rfl | rfl <;> rfl) (by unfold maxLen; omega) (by omega) hbase ?_
    · have hj := (List.getElem?_eq_some_iff.1 hu).1
      rw [flatP_length] at hj
      have hk : j / 2 < l2.length := by omega
      obtain ⟨b, off, hA, hc, hd⟩ := hr (j / 2) hk
      injection hA with hA; subst hA
      have hf := flatP_at l2 (j / 2) hk
      have hadd : (⟨b, off, none⟩ : Addr).add j = ⟨b, off + j, none⟩ := by unfold Addr.add; split <;> simp_all
      rw [hadd]
      rcases Nat.mod_two_eq_zero_or_one j with hm | hm
      · rw [show j / 2 * 2 = j by omega] at hc hf
        rw [hc, ← hu]; exact hf.1.symm
      · rw [show off + j / 2 * 2 + 1 = off + j by omega] at hd
        rw [show j / 2 * 2 + 1 = j by omega] at hf
        rw [hd, ← hu]; exact hf.2.symm
    · intro v' w1 hown' hgrow _
      refine h v' w1 ?_ ((Below.refl base X).grown hgrow hbase (fun k hk => (hown.lt k hk).1)) hgrow
      unfold OwnP; rw [List.length_append]; simp only [flatP, List.flatMap_append]; exact hown'
theorem own_emptyP (w : World) : OwnP (w.alloc (.cells #[] 54)) w.heap.size (.slice (some ⟨w.heap.size, 0, none⟩) 0 0) [] :=
  World.ownsRow_made w #[] 0 (Nat.le_refl _) (by decide) (by simp)

/-- the call returns a new slice of pairs -/
def RetPn (l : List (Int × Int)) (w : World) : Ending → World → Prop := fun e w' => ∃ A c, e = .returned (.slice A l.length c) ∧ OwnP w' w.heap.size (.slice A l.length c) l ∧ Below w.heap.size w w'
set_option maxRecDepth 100000 in
set_option maxHeartbeats 1000000 in
theorem clonePr_any (A : Option Addr) (l : List (Int × Int)) (c : Nat) (w : World) (hr : RP w A l) (hn : A = none → l = [] ∧ c = 0) (hl : l.length ≤ 100000) :
    Calls Tryz.prog 37 #[.slice A l.length c] w (RetPn l w) := by
  cases A with
  | none =>
    obtain ⟨rfl, rfl⟩ := hn rfl
    have heq : ∀ W : World, (binOp .eql 22 (.slice none 0 0) (.slice none 0 0)).run Tryz.prog W = .ok (.bool true) W := fun W => Lib.run_eql_slice_nil W _ _ none _ _ 0 0 Tryz.underlying22
    go_enter Tryz.func37, Tryz.ntmps37
    go_wp2_with fail
    go_ret
    exact ⟨none, 0, rfl, OwnP.nil _ _, Below.refl _ _⟩
  | some ad =>
    have Hr := Lib.hid (hr.below (newB w (.cells #[] 54)))
    clear hr hn
    have heq : ∀ W : World, (binOp .eql 22 (.slice (some ad) l.length c) (.slice none 0 0)).run Tryz.prog W = .ok (.bool false) W := fun W => Lib.run_eql_slice_nil W _ _ (some ad) _ _ 0 0 Tryz.underlying22
    go_enter Tryz.func37, Tryz.ntmps37
    go_wp2_with (at_builtin; refine wpList_appPs (by rfl) _ _ (by rfl) (w.alloc (.cells #[] 54)) w.heap.size _ [] (some ad) l c (own_emptyP w) Hr.out (by simp) (by rfl) (by rfl) (by simp; omega) (by simp) ?_; intro v' w1 hown hb1 hg1; rw [List.nil_append] at hown; (obtain ⟨A', c', rfl, _, _⟩ := OwnP.form hown); have Hown := Lib.hid hown; clear hown hg1)
    go_ret
    exact ⟨A', c', rfl, Hown.out, (newB w _).trans hb1⟩
set_option maxRecDepth 100000 in
set_option maxHeartbeats 1000000 in
theorem cloneI_any (A : Option Addr) (l : List Int) (c : Nat) (w : World) (hr : RI w A l) (hn : A = none → l = [] ∧ c = 0) (hl : l.length ≤ 100000) :
    Calls Tryz.prog 38 #[.slice A l.length c] w (RetI l w) := by
  cases A with
  | none =>
    obtain ⟨rfl, rfl⟩ := hn rfl
    have heq : ∀ W : World, (binOp .eql 25 (.slice none 0 0) (.slice none 0 0)).run Tryz.prog W = .ok (.bool true) W := fun W => Lib.run_eql_slice_nil W _ _ none _ _ 0 0 Tryz.underlying25
    go_enter Tryz.func38, Tryz.ntmps38
    go_wp2_with fail
    go_ret
    exact RetI.nil (Below.refl _ _)
  | some ad =>
    have Hr := Lib.hid (hr.below (newB w (.cells #[] 3)))
    clear hr hn
    have heq : ∀ W : World, (binOp .eql 25 (.slice (some ad) l.length c) (.slice none 0 0)).run Tryz.prog W = .ok (.bool false) W := fun W => Lib.run_eql_slice_nil W _ _ (some ad) _ _ 0 0 Tryz.underlying25
    go_enter Tryz.func38, Tryz.ntmps38
    go_wp2_with (at_builtin; refine wpList_appIs (by rfl) _ _ (by rfl) (w.alloc (.cells #[] 3)) w.heap.size _ [] (some ad) l c (own_empty w) Hr.out (by simp) (by rfl) (by rfl) (by simp; omega) (by simp) ?_; intro v' w1 hown hb1 hg1; rw [List.nil_append] at hown; (obtain ⟨A', c', rfl, _, _⟩ := OwnI.form hown); have Hown := Lib.hid hown; clear hown hg1)
    go_ret
    exact RetI.mk Hown.out ((newB w _).trans hb1)
set_option maxRecDepth 100000 in
set_option maxHeartbeats 2000000 in
theorem equalI_any (A B : Option Addr) (l m : List Int) (c d : Nat) (w : World) (hl : RI w A l) (hm : RI w B m) (hll : l.length ≤ 100000) (_hml : m.length ≤ 100000) :
    Calls Tryz.prog 41 #[.slice A l.length c, .slice B m.length d] w (RetB (.bool (eqB l m)) w) := by
  by_cases h2 : l.length = m.length
  case neg =>
    have hf : eqB l m = false := eqB_len h2
    have Hf := Lib.hid hf
    have hd : ((l.length : Int) != (m.length : Int)) = true := by rw [bne_iff_ne]; omega
    clear hf h2
    go_enter Tryz.func41, Tryz.ntmps41
    go_wp2_with fail
    go_ret
    exact ⟨rb Hf.out.symm, Below.refl _ _⟩
  case pos =>
  have hd : ((l.length : Int) != (m.length : Int)) = false := by rw [bne_eq_false_iff_eq]; omega
  have H2 := Lib.hid h2
  clear h2
  go_enter Tryz.func41, Tryz.ntmps41
  go_wp2_with fail
  clear hd
  go_loopw [13] (fun t wr => ∃ (k : Nat), k ≤ l.length ∧ t = .int .i64 k ∧ l.take k = m.take k ∧ Below w.heap.size w wr) (fun t _ => l.length - (intOf t).toNat)
  case atStart => exact ⟨0, Nat.zero_le _, rfl, rfl, Below.refl _ _⟩
  case round =>
    obtain ⟨k, hk, rfl, ht, hbl⟩ := hrel
    have Ht := Lib.hid ht; clear ht
    by_cases hlt : k < l.length
    case neg =>
      have hall : eqB l m = true := eqB_all H2.out (by omega) Ht.out
      have Hall := Lib.hid hall
      clear hall
      go_wp2_with fail
      go_ret
      exact ⟨rb Hall.out.symm, hbl⟩
    case pos =>
    have hltm : k < m.length := by have := H2.out; omega
    obtain ⟨b, o, rfl, hc0⟩ := (hl.below hbl).at_ hlt
    obtain ⟨b', o', rfl, hc0'⟩ := (hm.below hbl).at_ hltm
    have hnx := fun h => eqB_take_succ hlt hltm Ht.out h
    have hno := fun h => eqB_miss (a := l) (b := m) hlt hltm h
    have Hnx := Lib.hid hnx; have Hno := Lib.hid hno
    have hlt' : (k : Int) < (l.length : Int) := by omega
    have hltm' : (k : Int) < (m.length : Int) := by omega
    clear hnx hno
    generalize l[k] = x at *
    generalize m[k] = y at *
    by_cases he : x = y
    · subst he
      have hd : (x != x) = false := by simp
      have Hx := Lib.hid (Hnx.out hd)
      go_wp2_with fail
      go_quiet (fail)
      go_wp2_with fail
      go_roundw
      case rel => exact ⟨k + 1, by omega, by go_num, Hx.out, below_drewN hbl nq⟩
      case measure => simp [intOf]; omega
    · have hd : (x != y) = true := by rw [bne_iff_ne]; exact he
      have Hx := Lib.hid (Hno.out hd)
      clear he
      go_wp2_with fail
      go_quiet (fail)
      go_wp2_with fail
      go_ret
      exact ⟨rb Hx.out.symm, below_drewN hbl nq⟩
end Go.Proofs.YtkflanjlnbdkmaaGreatDoor

/- dynamic.copied, valid, New. -/
namespace Go.Proofs.YtkflanjlnbdkmaaGreatDoor
open Go.ChangeShapes Go.WideShapes Go.ChangeAt Go.RowKit

theorem Blk.threeF {w : World} {g : Nat} {t : TypeId} {x y z : Value} (h : Blk w g t #[x, y, z]) : w.cell? ⟨g, 0, none⟩ = some x ∧ w.cell? ⟨g, 1, none⟩ = some y ∧ w.cell? ⟨g, 2, none⟩ = some z ∧ w.frozen? ⟨g, 0, none⟩ = false ∧ w.frozen? ⟨g, 1, none⟩ = false ∧ w.frozen? ⟨g, 2, none⟩ = false :=
  ⟨by rw [h.cell]; rfl, by rw [h.cell]; rfl, by rw [h.cell]; rfl, h.frozen 0, h.frozen 1, h.frozen 2⟩
theorem boxed33 (w : World) (t u : TypeId) (x y z x' y' z' : Value) : ∃ W0, (w.alloc (.cells #[x, y, z] t)).alloc (.cells #[x', y', z'] u) = W0 ∧ Blk W0 w.heap.size t #[x, y, z] ∧ Blk W0 (w.heap.size + 1) u #[x', y', z'] ∧ Below w.heap.size w W0 ∧ w.heap.size + 1 < W0.heap.size := by
  refine ⟨_, rfl, (Blk.new w t #[x, y, z]).alloc _, ?_, ((Below.refl _ _).alloc (Nat.le_refl _) _).alloc (by simp) _, by simp⟩
  have := Blk.new (w.alloc (.cells #[x, y, z] t)) u #[x', y', z']
  simpa using this
theorem set3 {w : World} {g : Nat} {t : TypeId} {x y z : Value} (h : Blk w g t #[x, y, z]) (x' y' z' : Value) : Blk (((w.setCell ⟨g, 0, none⟩ x').setCell ⟨g, 1, none⟩ y').setCell ⟨g, 2, none⟩ z') g t #[x', y', z'] :=
  ((h.set_ 0 x').set_ 1 y').set_ 2 z'
theorem OwnP.mono {w : World} {b b' : Nat} {v : Value} {l : List (Int × Int)} (h : OwnP w b v l) (hb : b' ≤ b) : OwnP w b' v l := ownsRow_mono h hb
theorem OwnP.below {w w' : World} {b : Nat} {v : Value} {l : List (Int × Int)} (h : OwnP w b v l) (hb : Below w.heap.size w w') : OwnP w' b v l := ownsRow_below h hb
theorem OwnP.farB {w : World} {B : Nat} {v : Value} {l : List (Int × Int)} (h : OwnP w B v l) {g : Nat} (ha : g < B) (i : Nat) (u : Value) : OwnP (w.setCell ⟨g, i, none⟩ u) B v l :=
  World.ownsRow.kept h (grownBy_setCell w g i u) (.inr fun e => by have := (World.ownsRow.lt h g e).1; omega)
theorem below_set3 {B : Nat} {w w' : World} {g : Nat} (h : Below B w w') (hg : B ≤ g) (x y z : Value) : Below B w (((w'.setCell ⟨g, 0, none⟩ x).setCell ⟨g, 1, none⟩ y).setCell ⟨g, 2, none⟩ z) := ((h.setCell (p := ⟨g, 0, none⟩) hg x).setCell (p := ⟨g, 1, none⟩) hg y).setCell (p := ⟨g, 2, none⟩) hg z

/-- the call returns a state whose lists are new -/
def RetDn (N : Int) (l : List (Int × Int)) (lab : List Int) (w : World) : Ending → World → Prop := fun e w' => ∃ A c B d, e = .returned (.agg #[.int .i64 N, .slice A l.length c, .slice B lab.length d]) ∧ OwnP w' w.heap.size (.slice A l.length c) l ∧ OwnI w' w.heap.size (.slice B lab.length d) lab ∧ Below w.heap.size w w'
set_option maxRecDepth 100000 in
set_option maxHeartbeats 2000000 in
theorem dcopied_any (A B : Option Addr) (N : Int) (l : List (Int × Int)) (lab : List Int) (c d : Nat) (w : World) (hr : RP w A l) (hA : A = none → l = [] ∧ c = 0) (hl : l.length ≤ 100000) (hi : RI w B lab) (hB : B = none → lab = [] ∧ d = 0) (hlb : lab.length ≤ 100000) :
    Calls Tryz.prog 20 #[.agg #[.int .i64 N, .slice A l.length c, .slice B lab.length d]] w (RetDn N l lab w) := by
  go_enter Tryz.func20, Tryz.ntmps20
  go_upto_region 1 with fail
  obtain ⟨W0, hW, k0, k1, hb0, hlt0⟩ := boxed33 w 27 27 (.int .i64 N) (.slice A l.length c) (.slice B lab.length d) (.int .i64 0) (.slice none 0 0) (.slice none 0 0)
  rw [hW]
  have hr0 := hr.below hb0
  have hi0 := hi.below hb0
  clear hW hr hi
  refine wp_region_textZ [6, 10, 12] (fun w' => Below W0.heap.size W0 w') (fun _ => True) (by kernel_rfl) (by kernel_rfl) (by kernel_rfl) (by kernel_rfl) (Below.refl _ _).drew trivial ?_
  repeat (first
    | (refine TxtZL.skip (by rfl) ?_; simp only [Act.put, List.setIfInBounds_toArray, List.set_cons_zero, List.set_cons_succ])
    | (refine TxtZL.take (by rfl) (by rfl) ?_; apply Exists.intro; refine ⟨fun w1 hS1 => ?_, ?_⟩; (focus ((obtain ⟨g0, g1, g2, _, _, _⟩ := (k0.below hS1 (by omega)).threeF); go_simp; with_reducible rfl)); simp only [Act.put, List.setIfInBounds_toArray, List.set_cons_zero, List.set_cons_succ])
    | (refine TxtZL.takeE' (by rfl) (by rfl) ?_; apply Exists.intro; refine ⟨fun w1 hS1 => ?_, ?_⟩; (focus ((obtain ⟨g0, g1, g2, _, _, _⟩ := (k0.below hS1 (by omega)).threeF); go_simp; with_reducible rfl)); simp only [Act.put, List.setIfInBounds_toArray, List.set_cons_zero, List.set_cons_succ]))
  refine TxtZL.call (f := 37) (args := #[.slice A l.length c]) (fun u => ∃ A' c', u = Value.slice A' l.length c') (fun u w' => OwnP w' W0.heap.size u l) (by rfl) (by rfl) ⟨_, none, 0, rfl⟩ (fun w1 hS1 hJ1 => by go_simp) (fun w1 hS1 hJ1 => ?_) ?_
  · refine (clonePr_any A l c w1 (hr0.below hS1) hA hl).mono ?_
    rintro e w' ⟨A', c', rfl, ho, hb⟩
    exact ⟨_, rfl, hS1.trans (hb.mono hS1.size), ⟨A', c', rfl⟩, ho.mono hS1.size⟩
  rintro v9 ⟨A', c', rfl⟩
  simp only [Act.put, List.setIfInBounds_toArray, List.set_cons_zero, List.set_cons_succ]
  repeat (first
    | (refine TxtZL.skip (by rfl) ?_; simp only [Act.put, List.setIfInBounds_toArray, List.set_cons_zero, List.set_cons_succ])
    | (refine TxtZL.take (by rfl) (by rfl) ?_; apply Exists.intro; refine ⟨fun w1 hS1 => ?_, ?_⟩; (focus ((obtain ⟨g0, g1, g2, _, _, _⟩ := (k0.below hS1 (by omega)).threeF); go_simp; with_reducible rfl)); simp only [Act.put, List.setIfInBounds_toArray, List.set_cons_zero, List.set_cons_succ])
    | (refine TxtZL.takeE' (by rfl) (by rfl) ?_; apply Exists.intro; refine ⟨fun w1 hS1 => ?_, ?_⟩; (focus ((obtain ⟨g0, g1, g2, _, _, _⟩ := (k0.below hS1 (by omega)).threeF); go_simp; with_reducible rfl)); simp only [Act.put, List.setIfInBounds_toArray, List.set_cons_zero, List.set_cons_succ]))
  refine TxtZL.call (f := 38) (args := #[.slice B lab.length d]) (fun u => ∃ A' c', u = Value.slice A' lab.length c') (fun u w' => OwnP w' W0.heap.size (.slice A' l.length c') l ∧ OwnI w' W0.heap.size u lab) (by rfl) (by rfl) ⟨_, none, 0, rfl⟩ (fun w1 hS1 hJ1 => by go_simp) (fun w1 hS1 hJ1 => ?_) ?_
  · refine (cloneI_any B lab d w1 (hi0.below hS1) hB hlb).mono ?_
    rintro e w' ⟨B', d', rfl, ho, _, _, hb⟩
    exact ⟨_, rfl, hS1.trans (hb.mono hS1.size), ⟨B', d', rfl⟩, hJ1.below hb, ho.mono hS1.size⟩
  rintro v13 ⟨B', d', rfl⟩
  simp only [Act.put, List.setIfInBounds_toArray, List.set_cons_zero, List.set_cons_succ]
  repeat (first
    | (refine TxtZL.skip (by rfl) ?_; simp only [Act.put, List.setIfInBounds_toArray, List.set_cons_zero, List.set_cons_succ])
    | (refine TxtZL.take (by rfl) (by rfl) ?_; apply Exists.intro; refine ⟨fun w1 hS1 => ?_, ?_⟩; (focus (skip; go_simp; with_reducible rfl)); simp only [Act.put, List.setIfInBounds_toArray, List.set_cons_zero, List.set_cons_succ])
    | (refine TxtZL.takeE' (by rfl) (by rfl) ?_; apply Exists.intro; refine ⟨fun w1 hS1 => ?_, ?_⟩; (focus (skip; go_simp; with_reducible rfl)); simp only [Act.put, List.setIfInBounds_toArray, List.set_cons_zero, List.set_cons_succ]))
  refine TxtZL.last (fun w' => Blk w' (w.heap.size + 1) 27 #[.int .i64 N, .slice A' l.length c', .slice B' lab.length d'] ∧ OwnP w' W0.heap.size (.slice A' l.length c') l ∧ OwnI w' W0.heap.size (.slice B' lab.length d') lab ∧ Below w.heap.size w w') (by rfl) (by rfl) (fun w1 hS1 hJ1 => ?_) ?_
  · have hk := k1.below hS1 hlt0
    obtain ⟨g0, g1, g2, f0, f1, f2⟩ := hk.threeF
    refine Eff.skip (w' := ((w1.setCell ⟨w.heap.size + 1, 0, none⟩ (.int .i64 N)).setCell ⟨w.heap.size + 1, 1, none⟩ (.slice A' l.length c')).setCell ⟨w.heap.size + 1, 2, none⟩ (.slice B' lab.length d')) (by go_simp) ⟨set3 hk _ _ _, ((hJ1.1.farB hlt0 _ _).farB hlt0 _ _).farB hlt0 _ _, OwnI.farB (OwnI.farB (OwnI.farB hJ1.2 hlt0 _) hlt0 _) hlt0 _, below_set3 (endB hb0 hS1) (by omega) _ _ _⟩
  rintro v w2 ⟨hk, ho, hoi, hb⟩
  obtain ⟨g0, g1, g2, f0, f1, f2⟩ := hk.threeF
  have Ho := Lib.hid ho; have Hoi := Lib.hid hoi; have Hb := Lib.hid hb
  clear ho hoi hb k0 k1 hk
  go_wp2_with fail
  refine bodyPost_ret (v := .agg #[.int .i64 N, .slice A' l.length c', .slice B' lab.length d']) (by simp [results, Tryz.results20, go_sem, g0, g1, g2]) rfl ?_
  exact ⟨_, _, _, _, rfl, Ho.out.mono hb0.size, Hoi.out.mono hb0.size, Hb.out⟩
end Go.Proofs.YtkflanjlnbdkmaaGreatDoor

/- dynamic.valid, dynamic.New. -/
namespace Go.Proofs.YtkflanjlnbdkmaaGreatDoor
open Go.ChangeShapes Go.WideShapes Go.ChangeAt Go.RowKit

theorem boxed3 (w : World) (t : TypeId) (x y z : Value) : ∃ W0, w.alloc (.cells #[x, y, z] t) = W0 ∧ Blk W0 w.heap.size t #[x, y, z] ∧ Below w.heap.size w W0 ∧ w.heap.size < W0.heap.size :=
  ⟨_, rfl, Blk.new w t #[x, y, z], (Below.refl _ _).alloc (Nat.le_refl _) _, by simp⟩
theorem boxed23 (w : World) (t u : TypeId) (x y x' y' z' : Value) : ∃ W0, (w.alloc (.cells #[x, y] t)).alloc (.cells #[x', y', z'] u) = W0 ∧ Blk W0 w.heap.size t #[x, y] ∧ Blk W0 (w.heap.size + 1) u #[x', y', z'] ∧ Below w.heap.size w W0 ∧ w.heap.size + 1 < W0.heap.size := by
  refine ⟨_, rfl, (Blk.new w t #[x, y]).alloc _, ?_, ((Below.refl _ _).alloc (Nat.le_refl _) _).alloc (by simp) _, by simp⟩
  have := Blk.new (w.alloc (.cells #[x, y] t)) u #[x', y', z']
  simpa using this

/-- is a state valid? -/
def dvB (N : Int) (l : List (Int × Int)) (lab : List Int) : Bool := decide (valE N l = 0) && eqB lab (lst N.toNat (grL N.toNat l))
set_option maxRecDepth 100000 in
set_option maxHeartbeats 2000000 in
theorem dvalid_any (A B : Option Addr) (N : Int) (l : List (Int × Int)) (lab : List Int) (c d : Nat) (w : World) (hr : RP w A l) (hl : l.length ≤ 100000) (hi : RI w B lab) (hlb : lab.length ≤ 100000) (hT : Tab w) :
    Calls Tryz.prog 27 #[.agg #[.int .i64 N, .slice A l.length c, .slice B lab.length d]] w (RetB (.bool (dvB N l lab)) w) := by
  by_cases hv : valE N l = 0
  case neg =>
    have hvb : (valE N l == 0) = false := by rw [beq_eq_false_iff_ne]; exact hv
    have Hf := Lib.hid (show dvB N l lab = false by simp [dvB, hv])
    have hval := fun W (h : RP W A l) => gValidate_any A N l c W h hl
    generalize valE N l = E at *
    clear hv
    go_enter Tryz.func27, Tryz.ntmps27
    go_upto_region 1 with fail
    obtain ⟨W0, hW, k0, hb0, hlt0⟩ := boxed3 w 27 (.int .i64 N) (.slice A l.length c) (.slice B lab.length d)
    rw [hW]
    have hr0 := hr.below hb0
    clear hW hr hi
    refine wp_region_textB [2, 3, 4, 9, 10] (fun w' => Below W0.heap.size W0 w') (fun _ => True) (by kernel_rfl) (by kernel_rfl) (by kernel_rfl) (Below.refl _ _).drew trivial ?_
    repeat (first
      | (refine TxtBL.skip (by rfl) ?_; simp only [Act.put, List.setIfInBounds_toArray, List.set_cons_zero, List.set_cons_succ])
      | (refine TxtBL.take (by rfl) (by rfl) ?_; apply Exists.intro; refine ⟨fun w1 hS1 => ?_, ?_⟩; (focus ((obtain ⟨g0, g1, g2, _, _, _⟩ := (k0.below hS1 (by omega)).threeF); go_simp; with_reducible rfl)); simp only [Act.put, List.setIfInBounds_toArray, List.set_cons_zero, List.set_cons_succ])
      | (refine TxtBL.takeE (by rfl) (by rfl) ?_; apply Exists.intro; refine ⟨fun w1 hS1 => ?_, ?_⟩; (focus ((obtain ⟨g0, g1, g2, _, _, _⟩ := (k0.below hS1 (by omega)).threeF); go_simp; with_reducible rfl)); simp only [Act.put, List.setIfInBounds_toArray, List.set_cons_zero, List.set_cons_succ]))
    refine TxtBL.call (f := 19) (args := #[.agg #[.int .i64 N, .slice A l.length c]]) (fun u => u = .int .i64 E) (fun _ _ => True) (by rfl) (by rfl) ⟨_, rfl⟩ (fun w1 hS1 hJ1 => by go_simp) (fun w1 hS1 hJ1 => ?_) ?_
    · exact (hval w1 (hr0.below hS1)).mono fun _ _ h => ⟨_, h.1, hS1.trans (h.2.mono hS1.size), rfl, trivial⟩
    rintro v5 rfl
    simp only [Act.put, List.setIfInBounds_toArray, List.set_cons_zero, List.set_cons_succ]
    repeat (first
      | (refine TxtBL.skip (by rfl) ?_; simp only [Act.put, List.setIfInBounds_toArray, List.set_cons_zero, List.set_cons_succ])
      | (refine TxtBL.take (by rfl) (by rfl) ?_; apply Exists.intro; refine ⟨fun w1 hS1 => ?_, ?_⟩; (focus (skip; go_simp; with_reducible rfl)); simp only [Act.put, List.setIfInBounds_toArray, List.set_cons_zero, List.set_cons_succ])
      | (refine TxtBL.takeE (by rfl) (by rfl) ?_; apply Exists.intro; refine ⟨fun w1 hS1 => ?_, ?_⟩; (focus (skip; go_simp; with_reducible rfl)); simp only [Act.put, List.setIfInBounds_toArray, List.set_cons_zero, List.set_cons_succ]))
    refine TxtBL.nil (fun w2 hS _ => ?_)
    go_wp2_with fail
    go_ret
    exact ⟨rb Hf.out.symm, endB hb0 hS⟩
  case pos =>
  obtain ⟨n, rfl, hvl⟩ := vld_of_valE hv hl
  have hlab : lst n (grL n l) = lst (n : Int).toNat (grL (n : Int).toNat l) := by rw [Int.toNat_natCast]
  have Hf := Lib.hid (show dvB n l lab = eqB lab (lst n (grL n l)) by rw [hlab]; simp [dvB, hv])
  have hn40 := hvl.1.1
  have hll : (lst n (grL n l)).length ≤ 100000 := by rw [lst_length]; omega
  have Hval := fun W (h : RP W A l) => gValidate_any A n l c W h hl
  rw [hv] at Hval
  have Hlab := fun W (h : RP W A l) (h2 : Tab W) => gLabel_any A n l c W h hvl h2
  have Heq := fun W A2 c2 (h : RI W B lab) (h2 : RI W A2 (lst n (grL n l))) => equalI_any B A2 lab (lst n (grL n l)) d c2 W h h2 hlb hll
  generalize lst n (grL n l) = G at *
  generalize eqB lab G = q at *
  clear hv hlab
  go_enter Tryz.func27, Tryz.ntmps27
  go_upto_region 1 with fail
  obtain ⟨W0, hW, k0, hb0, hlt0⟩ := boxed3 w 27 (.int .i64 (n : Int)) (.slice A l.length c) (.slice B lab.length d)
  rw [hW]
  have hr0 := hr.below hb0
  have hi0 := hi.below hb0
  have hT0 := hT.below hb0
  clear hW hr hi hT
  refine wp_region_textB [2, 3, 4, 9, 10] (fun w' => Below W0.heap.size W0 w') (fun _ => True) (by kernel_rfl) (by kernel_rfl) (by kernel_rfl) (Below.refl _ _).drew trivial ?_
  repeat (first
    | (refine TxtBL.skip (by rfl) ?_; simp only [Act.put, List.setIfInBounds_toArray, List.set_cons_zero, List.set_cons_succ])
    | (refine TxtBL.take (by rfl) (by rfl) ?_; apply Exists.intro; refine ⟨fun w1 hS1 => ?_, ?_⟩; (focus ((obtain ⟨g0, g1, g2, _, _, _⟩ := (k0.below hS1 (by omega)).threeF); go_simp; with_reducible rfl)); simp only [Act.put, List.setIfInBounds_toArray, List.set_cons_zero, List.set_cons_succ])
    | (refine TxtBL.takeE (by rfl) (by rfl) ?_; apply Exists.intro; refine ⟨fun w1 hS1 => ?_, ?_⟩; (focus ((obtain ⟨g0, g1, g2, _, _, _⟩ := (k0.below hS1 (by omega)).threeF); go_simp; with_reducible rfl)); simp only [Act.put, List.setIfInBounds_toArray, List.set_cons_zero, List.set_cons_succ]))
  refine TxtBL.call (f := 19) (args := #[.agg #[.int .i64 (n : Int), .slice A l.length c]]) (fun u => u = .int .i64 0) (fun _ _ => True) (by rfl) (by rfl) ⟨_, rfl⟩ (fun w1 hS1 hJ1 => by go_simp) (fun w1 hS1 hJ1 => ?_) ?_
  · exact (Hval w1 (hr0.below hS1)).mono fun _ _ h => ⟨_, h.1, hS1.trans (h.2.mono hS1.size), rfl, trivial⟩
  rintro v5 rfl
  simp only [Act.put, List.setIfInBounds_toArray, List.set_cons_zero, List.set_cons_succ]
  repeat (first
    | (refine TxtBL.skip (by rfl) ?_; simp only [Act.put, List.setIfInBounds_toArray, List.set_cons_zero, List.set_cons_succ])
    | (refine TxtBL.take (by rfl) (by rfl) ?_; apply Exists.intro; refine ⟨fun w1 hS1 => ?_, ?_⟩; (focus ((obtain ⟨g0, g1, g2, _, _, _⟩ := (k0.below hS1 (by omega)).threeF); go_simp; with_reducible rfl)); simp only [Act.put, List.setIfInBounds_toArray, List.set_cons_zero, List.set_cons_succ])
    | (refine TxtBL.takeE (by rfl) (by rfl) ?_; apply Exists.intro; refine ⟨fun w1 hS1 => ?_, ?_⟩; (focus ((obtain ⟨g0, g1, g2, _, _, _⟩ := (k0.below hS1 (by omega)).threeF); go_simp; with_reducible rfl)); simp only [Act.put, List.setIfInBounds_toArray, List.set_cons_zero, List.set_cons_succ]))
  refine TxtBL.call (f := 21) (args := #[.agg #[.int .i64 (n : Int), .slice A l.length c]]) (fun u => ∃ A2 c2, u = .slice A2 G.length c2) (fun u w' => ∀ A2 c2, u = .slice A2 G.length c2 → RI w' A2 G) (by rfl) (by rfl) ⟨_, none, 0, rfl⟩ (fun w1 hS1 hJ1 => by go_simp) (fun w1 hS1 hJ1 => ?_) ?_
  · refine (Hlab w1 (hr0.below hS1) (hT0.below hS1)).mono ?_
    rintro e w' ⟨A2, c2, rfl, _, hri, _, hb⟩
    refine ⟨_, rfl, hS1.trans (hb.mono hS1.size), ⟨A2, c2, rfl⟩, fun A3 c3 e => ?_⟩
    injection e with e _ _; rw [← e]; exact hri
  rintro v12 ⟨A2, c2, rfl⟩
  simp only [Act.put, List.setIfInBounds_toArray, List.set_cons_zero, List.set_cons_succ]
  repeat (first
    | (refine TxtBL.skip (by rfl) ?_; simp only [Act.put, List.setIfInBounds_toArray, List.set_cons_zero, List.set_cons_succ])
    | (refine TxtBL.take (by rfl) (by rfl) ?_; apply Exists.intro; refine ⟨fun w1 hS1 => ?_, ?_⟩; (focus ((obtain ⟨g0, g1, g2, _, _, _⟩ := (k0.below hS1 (by omega)).threeF); go_simp; with_reducible rfl)); simp only [Act.put, List.setIfInBounds_toArray, List.set_cons_zero, List.set_cons_succ])
    | (refine TxtBL.takeE (by rfl) (by rfl) ?_; apply Exists.intro; refine ⟨fun w1 hS1 => ?_, ?_⟩; (focus ((obtain ⟨g0, g1, g2, _, _, _⟩ := (k0.below hS1 (by omega)).threeF); go_simp; with_reducible rfl)); simp only [Act.put, List.setIfInBounds_toArray, List.set_cons_zero, List.set_cons_succ]))
  refine TxtBL.call (f := 41) (args := #[.slice B lab.length d, .slice A2 G.length c2]) (fun u => u = .bool q) (fun _ _ => True) (by rfl) (by rfl) ⟨_, rfl⟩ (fun w1 hS1 hJ1 => by go_simp) (fun w1 hS1 hJ1 => ?_) ?_
  · exact (Heq w1 A2 c2 (hi0.below hS1) (hJ1 _ _ rfl)).mono fun _ _ h => ⟨_, h.1, hS1.trans (h.2.mono hS1.size), rfl, trivial⟩
  rintro v13 rfl
  simp only [Act.put, List.setIfInBounds_toArray, List.set_cons_zero, List.set_cons_succ]
  repeat (first
    | (refine TxtBL.skip (by rfl) ?_; simp only [Act.put, List.setIfInBounds_toArray, List.set_cons_zero, List.set_cons_succ])
    | (refine TxtBL.take (by rfl) (by rfl) ?_; apply Exists.intro; refine ⟨fun w1 hS1 => ?_, ?_⟩; (focus (skip; go_simp; with_reducible rfl)); simp only [Act.put, List.setIfInBounds_toArray, List.set_cons_zero, List.set_cons_succ])
    | (refine TxtBL.takeE (by rfl) (by rfl) ?_; apply Exists.intro; refine ⟨fun w1 hS1 => ?_, ?_⟩; (focus (skip; go_simp; with_reducible rfl)); simp only [Act.put, List.setIfInBounds_toArray, List.set_cons_zero, List.set_cons_succ]))
  refine TxtBL.nil (fun w2 hS _ => ?_)
  go_wp2_with fail
  go_ret
  exact ⟨rb Hf.out.symm, endB hb0 hS⟩

/-- the grounded labels; none at a graph that is not valid -/
def gLb (N : Int) (l : List (Int × Int)) : List Int := lst (nGn N l).toNat (grL (nGn N l).toNat (nGl N l))
/-- the call returns a state and an error -/
def RetDe (N : Int) (l : List (Int × Int)) (lab : List Int) (er : Int) (w : World) : Ending → World → Prop := fun e w' => ∃ A c B d, e = .returned (.tuple #[.agg #[.int .i64 N, .slice A l.length c, .slice B lab.length d], .int .i64 er]) ∧ OwnP w' w.heap.size (.slice A l.length c) l ∧ OwnI w' w.heap.size (.slice B lab.length d) lab ∧ Below w.heap.size w w'
set_option maxRecDepth 100000 in
set_option maxHeartbeats 2000000 in
theorem dnew_any (A : Option Addr) (N : Int) (l : List (Int × Int)) (c : Nat) (w : World) (hr : RP w A l) (hA : A = none → l = [] ∧ c = 0) (hl : l.length ≤ 100000) (hT : Tab w) :
    Calls Tryz.prog 7 #[.agg #[.int .i64 N, .slice A l.length c]] w (RetDe (nGn N l) (nGl N l) (gLb N l) (valE N l) w) := by
  by_cases hv : valE N l = 0
  case neg =>
    have hvb : (valE N l != 0) = true := by rw [bne_iff_ne]; exact hv
    have H1 := Lib.hid (show nGn N l = 0 by simp [nGn, hv])
    have H2 := Lib.hid (show nGl N l = [] by simp [nGl, hv])
    have H3 := Lib.hid (show gLb N l = [] by unfold gLb; rw [H1.out]; rfl)
    have hval := fun W (h : RP W A l) => gValidate_any A N l c W h hl
    generalize valE N l = E at *
    clear hv
    go_enter Tryz.func7, Tryz.ntmps7
    go_upto_region 1 with fail
    obtain ⟨W0, hW, k0, k1, hb0, hlt0⟩ := boxed23 w 24 27 (.int .i64 N) (.slice A l.length c) (.int .i64 0) (.slice none 0 0) (.slice none 0 0)
    rw [hW]
    have hr0 := hr.below hb0
    obtain ⟨c0, c1, _, _⟩ := k0.two
    clear hW hr
    go_wp2_with fail
    refine (hval W0 hr0).mono ?_
    rintro e w1 ⟨rfl, hb1⟩
    obtain ⟨g0, g1, g2, f0, f1, f2⟩ := (k1.below hb1 hlt0).threeF
    have hbb := endB hb0 hb1
    clear hval
    go_wp2_with fail
    have hk := set3 (k1.below hb1 hlt0) (.int .i64 0) (.slice none 0 0) (.slice none 0 0)
    obtain ⟨e0, e1, e2, _, _, _⟩ := hk.threeF
    refine bodyPost_ret (v := .tuple #[.agg #[.int .i64 0, .slice none 0 0, .slice none 0 0], .int .i64 E]) (by simp [results, Tryz.results7, go_sem, e0, e1, e2]) rfl ?_
    rw [H1.out, H2.out, H3.out]
    exact ⟨none, 0, none, 0, rfl, OwnP.nil _ _, OwnI.nil _ _, below_set3 hbb (by omega) _ _ _⟩
  case pos =>
  obtain ⟨n, rfl, hvl⟩ := vld_of_valE hv hl
  have H1 := Lib.hid (nGn_vld hvl)
  have H2 := Lib.hid (nGl_vld hvl)
  have H3 := Lib.hid (show gLb n l = lst n (grL n l) by unfold gLb; rw [H1.out, H2.out, Int.toNat_natCast])
  have H4 := Lib.hid hv
  have hn40 := hvl.1.1
  have hll : (lst n (grL n l)).length ≤ 100000 := by rw [lst_length]; omega
  have Hval := fun W (h : RP W A l) => gValidate_any A n l c W h hl
  rw [hv] at Hval
  have Hlab := fun W (h : RP W A l) (h2 : Tab W) => gLabel_any A n l c W h hvl h2
  obtain ⟨G, hG⟩ : ∃ G, lst n (grL n l) = G := ⟨_, rfl⟩
  rw [hG] at hll Hlab
  have HG := Lib.hid hG
  clear hv hG
  go_enter Tryz.func7, Tryz.ntmps7
  go_upto_region 1 with fail
  obtain ⟨W0, hW, k0, k1, hb0, hlt0⟩ := boxed23 w 24 27 (.int .i64 (n : Int)) (.slice A l.length c) (.int .i64 0) (.slice none 0 0) (.slice none 0 0)
  rw [hW]
  have hr0 := hr.below hb0
  have hT0 := hT.below hb0
  obtain ⟨c0, c1, _, _⟩ := k0.two
  clear hW hr hT
  go_wp2_with fail
  refine (Hval W0 hr0).mono ?_
  rintro e w1 ⟨rfl, hb1⟩
  have k01 := k0.below hb1 (by omega)
  have k11 := k1.below hb1 hlt0
  have hr1 := hr0.below hb1
  have hT1 := hT0.below hb1
  have hbb := endB hb0 hb1
  have hlt1 : w.heap.size + 1 < w1.heap.size := Nat.lt_of_lt_of_le hlt0 hb1.size
  clear Hval c0 c1 k0 k1 hr0 hT0 hb0 hb1 hlt0
  go_upto_region 4 with fail
  refine wp_region_textB [2, 4, 5] (fun w' => Blk w' w.heap.size 24 #[.int .i64 (n : Int), .slice A l.length c] ∧ Below w.heap.size w w') (fun w' => Below w1.heap.size w1 w') (by kernel_rfl) (by kernel_rfl) (by kernel_rfl) ⟨k01.below (Below.refl _ _).drew k01.lt, hbb.trans ((Below.refl _ _).drew.mono hbb.size)⟩ (Below.refl _ _).drew ?_
  repeat (first
    | (refine TxtBL.skip (by rfl) ?_; simp only [Act.put, List.setIfInBounds_toArray, List.set_cons_zero, List.set_cons_succ])
    | (refine TxtBL.take (by rfl) (by rfl) ?_; apply Exists.intro; refine ⟨fun w1 hS1 => ?_, ?_⟩; (focus ((obtain ⟨g0, g1, _, _⟩ := hS1.1.two); go_simp; with_reducible rfl)); simp only [Act.put, List.setIfInBounds_toArray, List.set_cons_zero, List.set_cons_succ])
    | (refine TxtBL.takeE (by rfl) (by rfl) ?_; apply Exists.intro; refine ⟨fun w1 hS1 => ?_, ?_⟩; (focus ((obtain ⟨g0, g1, _, _⟩ := hS1.1.two); go_simp; with_reducible rfl)); simp only [Act.put, List.setIfInBounds_toArray, List.set_cons_zero, List.set_cons_succ]))
  refine TxtBL.call (f := 21) (args := #[.agg #[.int .i64 (n : Int), .slice A l.length c]]) (fun u => ∃ A2 c2, u = .slice A2 G.length c2) (fun u w' => Below w1.heap.size w1 w' ∧ ∀ A2 c2, u = .slice A2 G.length c2 → RI w' A2 G ∧ (A2 = none → G = [] ∧ c2 = 0)) (by rfl) (by rfl) ⟨_, none, 0, rfl⟩ (fun w2 hS1 hJ1 => by go_simp) (fun w2 hS1 hJ1 => ?_) ?_
  · refine (Hlab w2 (hr1.below hJ1) (hT1.below hJ1)).mono ?_
    rintro e w' ⟨A2, c2, rfl, ho, hri, _, hb⟩
    refine ⟨_, rfl, ⟨hS1.1.below hb (lt_of_cell hS1.1.two.1), hS1.2.trans (hb.mono hS1.2.size)⟩, ⟨A2, c2, rfl⟩, endB hJ1 hb, fun A3 c3 e => ?_⟩
    obtain ⟨A4, c4, e4, h4, h5⟩ := OwnI.form2 ho
    rw [e4] at e
    injection e with e _ e'
    subst e e'
    exact ⟨h4, h5⟩
  rintro v13 ⟨A2, c2, rfl⟩
  simp only [Act.put, List.setIfInBounds_toArray, List.set_cons_zero, List.set_cons_succ]
  repeat (first
    | (refine TxtBL.skip (by rfl) ?_; simp only [Act.put, List.setIfInBounds_toArray, List.set_cons_zero, List.set_cons_succ])
    | (refine TxtBL.take (by rfl) (by rfl) ?_; apply Exists.intro; refine ⟨fun w1 hS1 => ?_, ?_⟩; (focus (skip; go_simp; with_reducible rfl)); simp only [Act.put, List.setIfInBounds_toArray, List.set_cons_zero, List.set_cons_succ])
    | (refine TxtBL.takeE (by rfl) (by rfl) ?_; apply Exists.intro; refine ⟨fun w1 hS1 => ?_, ?_⟩; (focus (skip; go_simp; with_reducible rfl)); simp only [Act.put, List.setIfInBounds_toArray, List.set_cons_zero, List.set_cons_succ]))
  refine TxtBL.call (f := 20) (args := #[.agg #[.int .i64 (n : Int), .slice A l.length c, .slice A2 G.length c2]]) (fun u => ∃ A' c' B' d', u = .agg #[.int .i64 (n : Int), .slice A' l.length c', .slice B' G.length d']) (fun u w' => Below w1.heap.size w1 w' ∧ ∀ A' c' B' d', u = .agg #[.int .i64 (n : Int), .slice A' l.length c', .slice B' G.length d'] → OwnP w' w1.heap.size (.slice A' l.length c') l ∧ OwnI w' w1.heap.size (.slice B' G.length d') G) (by rfl) (by rfl) ⟨_, none, 0, none, 0, rfl⟩ (fun w2 hS1 hJ1 => by go_simp) (fun w2 hS1 hJ1 => ?_) ?_
  · obtain ⟨hb2, hh⟩ := hJ1
    obtain ⟨h5, h6⟩ := hh _ _ rfl
    refine (dcopied_any A A2 n l G c c2 w2 (hr1.below hb2) hA hl h5 h6 hll).mono ?_
    rintro e w' ⟨A', c', B', d', rfl, hop, hoi, hb⟩
    refine ⟨_, rfl, ⟨hS1.1.below hb (lt_of_cell hS1.1.two.1), hS1.2.trans (hb.mono hS1.2.size)⟩, ⟨A', c', B', d', rfl⟩, endB hb2 hb, fun A3 c3 B3 d3 e => ?_⟩
    simp only [Value.agg.injEq, Array.mk.injEq, List.cons.injEq, Value.slice.injEq, true_and, and_true] at e
    obtain ⟨⟨rfl, rfl⟩, rfl, rfl⟩ := e
    exact ⟨hop.mono hb2.size, hoi.mono hb2.size⟩
  rintro v15 ⟨A', c', B', d', rfl⟩
  simp only [Act.put, List.setIfInBounds_toArray, List.set_cons_zero, List.set_cons_succ]
  refine TxtBL.eff (fun u => u = undef) (fun _ w' => Blk w' (w.heap.size + 1) 27 #[.int .i64 (n : Int), .slice A' l.length c', .slice B' G.length d'] ∧ OwnP w' w1.heap.size (.slice A' l.length c') l ∧ OwnI w' w1.heap.size (.slice B' G.length d') G) (by rfl) (by rfl) ⟨_, rfl⟩ (fun w2 hS1 hJ1 => ?_) ?_
  · obtain ⟨hb2, hh⟩ := hJ1
    obtain ⟨hop, hoi⟩ := hh _ _ _ _ rfl
    have hk := k11.below hb2 hlt1
    obtain ⟨g0, g1, g2, f0, f1, f2⟩ := hk.threeF
    refine Eff.skip (w' := ((w2.setCell ⟨w.heap.size + 1, 0, none⟩ (.int .i64 (n : Int))).setCell ⟨w.heap.size + 1, 1, none⟩ (.slice A' l.length c')).setCell ⟨w.heap.size + 1, 2, none⟩ (.slice B' G.length d')) (by go_simp) ⟨⟨((hS1.1.far (by simp) _).far (by simp) _).far (by simp) _, below_set3 hS1.2 (by omega) _ _ _⟩, rfl, set3 hk _ _ _, ((hop.farB hlt1 _ _).farB hlt1 _ _).farB hlt1 _ _, OwnI.farB (OwnI.farB (OwnI.farB hoi hlt1 _) hlt1 _) hlt1 _⟩
  rintro v rfl
  simp only [Act.put]
  repeat (first
    | (refine TxtBL.skip (by rfl) ?_; simp only [Act.put, List.setIfInBounds_toArray, List.set_cons_zero, List.set_cons_succ])
    | (refine TxtBL.take (by rfl) (by rfl) ?_; apply Exists.intro; refine ⟨fun w1 hS1 => ?_, ?_⟩; (focus (skip; go_simp; with_reducible rfl)); simp only [Act.put, List.setIfInBounds_toArray, List.set_cons_zero, List.set_cons_succ])
    | (refine TxtBL.takeE (by rfl) (by rfl) ?_; apply Exists.intro; refine ⟨fun w1 hS1 => ?_, ?_⟩; (focus (skip; go_simp; with_reducible rfl)); simp only [Act.put, List.setIfInBounds_toArray, List.set_cons_zero, List.set_cons_succ]))
  refine TxtBL.nil (fun w2 hS hJ => ?_)
  obtain ⟨hk, ho, hoi⟩ := hJ
  obtain ⟨g0, g1, g2, f0, f1, f2⟩ := hk.threeF
  have Ho := Lib.hid ho; have Hoi := Lib.hid hoi; have Hb := Lib.hid hS.2
  clear ho hoi hS hk
  go_wp2_with fail
  refine bodyPost_ret (v := .tuple #[.agg #[.int .i64 (n : Int), .slice A' l.length c', .slice B' G.length d'], .int .i64 0]) (by simp [results, Tryz.results7, go_sem, g0, g1, g2]) rfl ?_
  rw [H1.out, H2.out, H3.out, H4.out, HG.out]
  exact ⟨_, _, _, _, rfl, Ho.out.mono (by omega), Hoi.out.mono (by omega), Hb.out⟩
end Go.Proofs.YtkflanjlnbdkmaaGreatDoor

/- dynamic.refused. -/
namespace Go.Proofs.YtkflanjlnbdkmaaGreatDoor
open Go.ChangeShapes Go.WideShapes Go.ChangeAt Go.RowKit

set_option maxRecDepth 100000 in
set_option maxHeartbeats 2000000 in
theorem drefused_any (A : Option Addr) (n : Nat) (l : List (Int × Int)) (c : Nat) (k f t : Int) (w : World) (hr : RP w A l) (hvl : Vld n l) :
    Calls Tryz.prog 42 #[.agg #[.int .i64 (n : Int), .slice A l.length c], .agg #[.int .i64 k, .int .i64 f, .int .i64 t]] w (RetB (.int .i64 (chkE n l k f t)) w) := by
  have hl := hvl.1.2.1
  have hn40 := hvl.1.1
  by_cases h12 : k = 1 ∨ k = 2
  · have hhas := fun W (h : RP W A l) => gHas_any A n l c f t W h hl
    rw [nGl_vld hvl] at hhas
    obtain ⟨hs, hhs⟩ : ∃ b, hasB l f t = b := ⟨_, rfl⟩
    rw [hhs] at hhas
    have Hk : (k = 1 ∧ (k == 1) = true ∧ (k == 2) = false) ∨ (k = 2 ∧ (k == 1) = false ∧ (k == 2) = true) := by
      rcases h12 with rfl | rfl
      · exact .inl ⟨rfl, rfl, rfl⟩
      · exact .inr ⟨rfl, rfl, rfl⟩
    by_cases hrg : f < 0 ∨ (n : Int) ≤ f ∨ t < 0 ∨ (n : Int) ≤ t
    · have hE : chkE n l k f t = 1 := by unfold chkE; rw [if_neg (by omega), if_neg (by omega), if_pos hrg]
      have HE := Lib.hid hE
      have Hrg := Lib.hid hrg
      clear hE hrg hhs
      have hmn : decide (min f t < 0) = true ∨ (decide (min f t < 0) = false ∧ decide ((n : Int) ≤ max f t) = true) := by
        have := Hrg.out
        rw [decide_eq_true_eq, decide_eq_false_iff_not, decide_eq_true_eq]
        omega
      rcases Hk with ⟨rfl, e1, e2⟩ | ⟨rfl, e1, e2⟩ <;> rcases hmn with hm | ⟨hm, hm2⟩
      all_goals
        clear h12
        go_enter Tryz.func42, Tryz.ntmps42
        go_upto_region 1 with fail
        obtain ⟨W0, hW, k0, k1, hb0, hlt0⟩ := boxed23 w 24 29 (.int .i64 (n : Int)) (.slice A l.length c) (.int .i64 _) (.int .i64 f) (.int .i64 t)
        rw [hW]
        obtain ⟨c0, c1, _, _⟩ := k0.two
        obtain ⟨d0, d1, d2, _, _, _⟩ := k1.threeF
        have hr0 := hr.below hb0
        clear hW
        go_wp2_with fail
        refine (hhas W0 hr0).mono ?_
        rintro e w1 ⟨rfl, hb1⟩
        have c0' := (hb1.cell (lt_of_cell c0)).trans c0
        have d0' := (hb1.cell (lt_of_cell d0)).trans d0
        have d1' := (hb1.cell (lt_of_cell d1)).trans d1
        have d2' := (hb1.cell (lt_of_cell d2)).trans d2
        go_wp2_with fail
        go_ret
        exact ⟨ri HE.out.symm, endB hb0 hb1⟩
    · have hm : decide (min f t < 0) = false := by rw [decide_eq_false_iff_not]; omega
      have hm2 : decide ((n : Int) ≤ max f t) = false := by rw [decide_eq_false_iff_not]; omega
      have hE : chkE n l k f t = if k = 1 ∧ hs = true then 5 else if k = 2 ∧ hs = false then 6 else 0 := by unfold chkE; rw [if_neg (by omega), if_neg (by omega), if_neg hrg, hhs]
      clear hhs hrg
      rcases Hk with ⟨rfl, e1, e2⟩ | ⟨rfl, e1, e2⟩ <;> cases hs
      all_goals
        simp at hE
        have HE := Lib.hid hE
        clear h12 hE
        go_enter Tryz.func42, Tryz.ntmps42
        go_upto_region 1 with fail
        obtain ⟨W0, hW, k0, k1, hb0, hlt0⟩ := boxed23 w 24 29 (.int .i64 (n : Int)) (.slice A l.length c) (.int .i64 _) (.int .i64 f) (.int .i64 t)
        rw [hW]
        obtain ⟨c0, c1, _, _⟩ := k0.two
        obtain ⟨d0, d1, d2, _, _, _⟩ := k1.threeF
        have hr0 := hr.below hb0
        clear hW
        go_wp2_with fail
        refine (hhas W0 hr0).mono ?_
        rintro e w1 ⟨rfl, hb1⟩
        have c0' := (hb1.cell (lt_of_cell c0)).trans c0
        have d0' := (hb1.cell (lt_of_cell d0)).trans d0
        have d1' := (hb1.cell (lt_of_cell d1)).trans d1
        have d2' := (hb1.cell (lt_of_cell d2)).trans d2
        go_wp2_with fail
        go_ret
        exact ⟨ri HE.out.symm, endB hb0 hb1⟩
  · have e1 : (k == 1) = false := by rw [beq_eq_false_iff_ne]; omega
    have e2 : (k == 2) = false := by rw [beq_eq_false_iff_ne]; omega
    by_cases h34 : k = 3 ∨ k = 4
    · have Hk : (k = 3 ∧ (k == 3) = true ∧ (k == 4) = false) ∨ (k = 4 ∧ (k == 3) = false ∧ (k == 4) = true) := by
        rcases h34 with rfl | rfl
        · exact .inl ⟨rfl, rfl, rfl⟩
        · exact .inr ⟨rfl, rfl, rfl⟩
      by_cases hz : f ≠ 0 ∨ t ≠ 0
      · have hE : chkE n l k f t = 1 := by unfold chkE; rw [if_neg (by omega), if_pos (by omega), if_pos hz]
        have HE := Lib.hid hE
        have hf : (f != 0) = true ∨ ((f != 0) = false ∧ (t != 0) = true) := by
          rw [bne_iff_ne, bne_eq_false_iff_eq, bne_iff_ne]
          by_cases h : f = 0
          · exact .inr ⟨h, by omega⟩
          · exact .inl h
        clear hE hz
        rcases Hk with ⟨rfl, e3, e4⟩ | ⟨rfl, e3, e4⟩ <;> rcases hf with hf | ⟨hf, hf2⟩
        all_goals
          clear h12 h34
          go_enter Tryz.func42, Tryz.ntmps42
          go_upto_region 1 with fail
          obtain ⟨W0, hW, k0, k1, hb0, hlt0⟩ := boxed23 w 24 29 (.int .i64 (n : Int)) (.slice A l.length c) (.int .i64 _) (.int .i64 f) (.int .i64 t)
          rw [hW]
          obtain ⟨c0, c1, _, _⟩ := k0.two
          obtain ⟨d0, d1, d2, _, _, _⟩ := k1.threeF
          have hr0 := hr.below hb0
          clear hW
          go_wp2_with fail
          go_ret
          exact ⟨ri HE.out.symm, hb0⟩
      · have hf0 : f = 0 := by omega
        have ht0 : t = 0 := by omega
        subst hf0 ht0
        have hE : chkE n l k 0 0 = if k = 3 ∧ n = 40 then 2 else if k = 4 ∧ n = 0 then 9 else 0 := by unfold chkE; rw [if_neg (by omega), if_pos (by omega), if_neg hz]
        have hq : ((n : Int) == 40) = decide (n = 40) := by
          rw [Bool.eq_iff_iff, beq_iff_eq, decide_eq_true_eq]; omega
        have hq2 : ((n : Int) == 0) = decide (n = 0) := by
          rw [Bool.eq_iff_iff, beq_iff_eq, decide_eq_true_eq]; omega
        clear hz
        obtain ⟨b1, hb1⟩ : ∃ b, decide (n = 40) = b := ⟨_, rfl⟩
        obtain ⟨b2, hb2⟩ : ∃ b, decide (n = 0) = b := ⟨_, rfl⟩
        rw [hb1] at hq
        rw [hb2] at hq2
        have hE2 : chkE n l k 0 0 = if k = 3 ∧ b1 = true then 2 else if k = 4 ∧ b2 = true then 9 else 0 := by
          rw [hE, ← hb1, ← hb2]; simp only [decide_eq_true_eq]
        clear hE hb1 hb2
        rcases Hk with ⟨rfl, e3, e4⟩ | ⟨rfl, e3, e4⟩ <;> cases b1 <;> cases b2
        all_goals
          simp at hE2
          have HE := Lib.hid hE2
          clear h12 h34 hE2
          go_enter Tryz.func42, Tryz.ntmps42
          go_upto_region 1 with fail
          obtain ⟨W0, hW, k0, k1, hb0, hlt0⟩ := boxed23 w 24 29 (.int .i64 (n : Int)) (.slice A l.length c) (.int .i64 _) (.int .i64 0) (.int .i64 0)
          rw [hW]
          obtain ⟨c0, c1, _, _⟩ := k0.two
          obtain ⟨d0, d1, d2, _, _, _⟩ := k1.threeF
          have hr0 := hr.below hb0
          clear hW
          go_wp2_with fail
          go_ret
          exact ⟨ri HE.out.symm, hb0⟩
    · have e3 : (k == 3) = false := by rw [beq_eq_false_iff_ne]; omega
      have e4 : (k == 4) = false := by rw [beq_eq_false_iff_ne]; omega
      have hE : chkE n l k f t = 4 := by unfold chkE; rw [if_pos (by omega)]
      have HE := Lib.hid hE
      clear h12 h34 hE
      go_enter Tryz.func42, Tryz.ntmps42
      go_upto_region 1 with fail
      obtain ⟨W0, hW, k0, k1, hb0, hlt0⟩ := boxed23 w 24 29 (.int .i64 (n : Int)) (.slice A l.length c) (.int .i64 k) (.int .i64 f) (.int .i64 t)
      rw [hW]
      obtain ⟨c0, c1, _, _⟩ := k0.two
      obtain ⟨d0, d1, d2, _, _, _⟩ := k1.threeF
      have hr0 := hr.below hb0
      clear hW
      go_wp2_with fail
      go_ret
      exact ⟨ri HE.out.symm, hb0⟩
end Go.Proofs.YtkflanjlnbdkmaaGreatDoor
