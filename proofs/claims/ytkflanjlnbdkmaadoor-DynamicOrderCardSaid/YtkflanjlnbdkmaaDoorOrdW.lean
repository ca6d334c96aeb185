/- The walk of the statement DynamicOrder (printed by gen_ord.py). -/
import Derived.Test.YtkflanjlnbdkmaaDoorDyR
import Derived.Test.YtkflanjlnbdkmaaDoorCmc
import Derived.Deep.CutBlock
namespace Go.Proofs.YtkflanjlnbdkmaaDoor
open Go.ChangeShapes Go.WideShapes Go.ChangeAt Go.RowKit

/-- the box that was laid, if it was -/
def BxC (o : Option Nat) (m : Nat) (w : World) : Prop := ∀ q, o = some q → m ≤ q ∧ Blk w q 58 #[.int .i64 0, .int .i64 0, .int .i64 0]
theorem BxC.no {m : Nat} {w : World} : BxC Option.none m w := fun q e => by cases e
theorem BxC.new {m : Nat} {w : World} (h : m ≤ w.heap.size) : BxC (some w.heap.size) m (w.alloc (.cells #[.int .i64 0, .int .i64 0, .int .i64 0] 58)) := fun q e => by
  injection e with e; subst e; exact ⟨h, Blk.new _ _ _⟩
theorem BxC.grown {o : Option Nat} {m p : Nat} {w w' : World} (h : BxC o m w) (hg : w.grownBy w' (some p)) (hp : p < m) : BxC o m w' := fun q e =>
  ⟨(h q e).1, (h q e).2.grown hg (fun e' => by injection e' with e'; have := (h q e).1; omega)⟩
/-- what stands behind the region: the box of a change -/
structure JCh (wr : World) (p q : Nat) (k : Int) (x y : Nat) (w : World) : Prop where
  q0 : wr.heap.size ≤ q
  blk : Blk w q 58 #[.int .i64 k, .int .i64 (x : Int), .int .i64 (y : Int)]
  src : SrcOk w p
  grown : wr.grownBy w (some p)
theorem src_set {w : World} {p D : Nat} (h : SrcOk w p) (hp : p < D) (i : Nat) (x : Value) : SrcOk (w.setCell ⟨D, i, none⟩ x) p := h.other (grownBy_setCell w D i x) (fun k hk => by injection hk with hk; omega)
theorem grown_set {wr w : World} {p q : Nat} (hg : wr.grownBy w (some p)) (hq : wr.heap.size ≤ q) (i : Nat) (x : Value) : wr.grownBy (w.setCell ⟨q, i, none⟩ x) (some p) :=
  ⟨hg.os, hg.tape, hg.output, by simpa using hg.size, fun j hj hne => (Below.heap_setCell w ⟨q, i, none⟩ x j (by simp; omega)).trans (hg.block j hj hne)⟩
theorem JCh.of_store {wr w : World} {p q x y : Nat} (hs : SrcOk w p) (hg : wr.grownBy w (some p)) (hpw : p < wr.heap.size) (hq : wr.heap.size ≤ q) (hk : Blk w q 58 #[.int .i64 0, .int .i64 0, .int .i64 0]) :
    JCh wr p q 1 x y (((w.setCell ⟨q, 0, none⟩ (.int .i64 1)).setCell ⟨q, 1, none⟩ (.int .i64 (x : Int))).setCell ⟨q, 2, none⟩ (.int .i64 (y : Int))) :=
  ⟨hq, set3 hk _ _ _, src_set (src_set (src_set hs (by omega) _ _) (by omega) _ _) (by omega) _ _, grown_set (grown_set (grown_set hg hq _ _) hq _ _) hq _ _⟩
theorem JCh.set0 {wr w : World} {p q x y : Nat} {k : Int} (h : JCh wr p q k x y w) (hpw : p < wr.heap.size) (k' : Int) : JCh wr p q k' x y (w.setCell ⟨q, 0, none⟩ (.int .i64 k')) :=
  ⟨h.q0, h.blk.set_ 0 _, src_set h.src (by have := h.q0; omega) _ _, grown_set h.grown h.q0 _ _⟩
theorem JCh.below {wr w w' : World} {p q x y : Nat} {k : Int} (h : JCh wr p q k x y w) (hb : Below w.heap.size w w') : JCh wr p q k x y w' :=
  ⟨h.q0, h.blk.below hb h.blk.lt, h.src.kept hb, grownBy_trans h.grown (grownBy_of_below hb _)⟩
def eqC (a b : Int × Int × Int) : Bool := a.1 == b.1 && (a.2.1 == b.2.1 && a.2.2 == b.2.2)
theorem eqC_iff {a b : Int × Int × Int} : eqC a b = true ↔ a = b := by
  obtain ⟨a1, a2, a3⟩ := a; obtain ⟨b1, b2, b3⟩ := b
  simp [eqC]
def dupB (cs : List (Int × Int × Int)) (c : Int × Int × Int) : Bool := cs.any fun q => eqC q c
theorem dupB_snoc {cs : List (Int × Int × Int)} {c : Int × Int × Int} {i : Nat} (h : i < cs.length) : dupB (cs.take (i + 1)) c = (dupB (cs.take i) c || eqC cs[i] c) := by
  unfold dupB; rw [List.take_succ_eq_append_getElem h, List.any_append]; simp
theorem dupB_no {cs : List (Int × Int × Int)} {c : Int × Int × Int} (h : dupB cs c = false) : c ∉ cs := fun hm => by
  rw [show dupB cs c = true from List.any_eq_true.2 ⟨c, hm, eqC_iff.2 rfl⟩] at h; cases h
theorem rev_at {cs : List (Int × Int × Int)} {j : Nat} (h : j < cs.length) : cs.reverse.take (j + 1) = cs.reverse.take j ++ [cs.getD (cs.length - 1 - j) (0, 0, 0)] := by
  have h' : j < cs.reverse.length := by simpa using h
  rw [List.take_succ_eq_append_getElem h', List.getElem_reverse]
  simp [List.getD, show cs.length - 1 - j < cs.length by omega]
theorem grown_below {wr w w' : World} {r : Option Nat} (hg : wr.grownBy w r) (hb : Below wr.heap.size w w') : wr.grownBy w' r :=
  ⟨hb.os.trans hg.os, hb.tape.trans hg.tape, hb.output.trans hg.output, Nat.le_trans hg.size hb.size, fun j hj hne => (hb.block j hj).trans (hg.block j hj hne)⟩
theorem OwnC.src {w w' : World} {m p : Nat} {v : Value} {l : List (Int × Int × Int)} (h : OwnC w m v l) (hs : SrcOk w p) (hp : p < m) (hg : w.grownBy w' v.ownBlock) : SrcOk w' p :=
  hs.other hg fun k hk => Nat.lt_of_lt_of_le hp (World.ownsRow.lt h k hk).1
set_option maxRecDepth 100000 in
set_option maxHeartbeats 8000000 in
theorem order_law_any (A0 : Option Addr) (arg : List Int) (c0 : Nat) (w : World)
    (hlc : arg.length ≤ c0) (hc : c0 ≤ 9223372036854775807) (hr : RI w A0 arg) (hx : ∀ x ∈ arg, -9223372036854775808 ≤ x ∧ x ≤ 9223372036854775807) (hT : Tab w) :
    Calls Tryd.prog 10 #[.slice A0 arg.length c0] w (RetB (.bool true) w) := by
  have htab : 0 < w.heap.size := lt_of_cell (hT 0 (by omega))
  go_enter Tryd.func10, Tryd.ntmps10
  go_wp2_with fail
  refine (new_any A0 arg c0 w hlc hc hr hx).mono ?_
  rintro e w1 ⟨p, rfl, hp, hs1, hb1⟩
  have hp1 := hs1.lt
  have HT0 := Lib.hid hT
  clear hr hx
  go_wp2_with fail
  refine (graph2_any p 8 w1 hs1 (by omega)).mono ?_
  rintro e w2 ⟨n, l, AL, cl, rfl, hN, hv, hrp, hloc, hs2, hg2, hAn⟩
  have hb2 : Below w.heap.size w w2 := hb1.trans (below_of_grownBy hg2 hp hb1.size)
  have hT2 := hT.below hb2
  have hp2 := hs2.lt
  have Hnew := Lib.hid (new_v hv AL cl w2 hrp hAn hT2)
  obtain ⟨G, hG⟩ : ∃ G, lst n (grL n l) = G := ⟨_, rfl⟩
  rw [hG] at Hnew
  have HG := Lib.hid hG; have HV := Lib.hid hv
  clear hs1 hb1 hg2 hT hv hrp hloc hAn hG
  go_wp2_with fail
  refine Hnew.out.mono ?_
  rintro e w3 ⟨A3, c3, B3, d3, rfl, hop3, hoi3, hb3⟩
  have hV3 := DyV.of_own hop3 hoi3
  have hs3 := hs2.kept hb3
  have hbb3 := endB hb2 hb3
  have hsz3 := hb3.size
  clear Hnew hop3 hoi3 hs2 hT2 hb2 hb3
  go_upto_region 3 with fail
  obtain ⟨W4, hW4, k4, hb4, hlt4⟩ := boxed3 w3 52 (.int .i64 (n : Int)) (.slice A3 l.length c3) (.slice B3 G.length d3)
  rw [hW4]
  have hV4 := hV3.below hb4
  have hs4 := hs3.kept hb4
  have hbb4 := endB hbb3 hb4
  have hsz4 := hb4.size
  clear hW4 hV3 hs3 hbb3 hb4
  obtain ⟨m0, hm0⟩ : ∃ m, w2.heap.size = m := ⟨_, rfl⟩
  rw [hm0] at hV4 hsz3 hp2
  have hpm := hp2
  obtain ⟨D, hD⟩ : ∃ D, w3.heap.size = D := ⟨_, rfl⟩
  rw [hD] at k4 hsz3 hsz4 hlt4 ⊢
  have HV4 := Lib.hid hV4; have Hs4 := Lib.hid hs4; have Hbb4 := Lib.hid hbb4
  clear hV4 hs4 hbb4 hm0 hD
  have hn40 : n < 40 := by omega
  have hp4 : p < W4.heap.size := by omega
  obtain ⟨c0, c1, c2, _, _, _⟩ := k4.threeF
  go_upto_block 0 with fail
  go_cut [6] (fun s6 wx => ∃ cs, cs.length ≤ 6 ∧ OwnC wx W4.heap.size s6 cs ∧ TogOk n l cs ∧ SrcOk wx p ∧ W4.grownBy wx (some p))
  case first =>
    clear HG
    go_wp2_with fail
    go_loopw [6, 7] (fun v6 kk wr => ∃ (k : Nat) (cs : List (Int × Int × Int)), k ≤ 6 ∧ kk = .int .i64 k ∧ cs.length ≤ k ∧ OwnC wr W4.heap.size v6 cs ∧ TogOk n l cs ∧ SrcOk wr p ∧ W4.grownBy wr (some p)) (fun _ kk _ => 6 - (intOf kk).toNat)
    case atStart => exact ⟨0, [], by omega, rfl, by simp, OwnC.nil _ _, TogOk.nil _ _, Hs4.out, grownBy_of_below (Below.refl _ _) _⟩
    case round =>
      obtain ⟨k, cs, hk, rfl, hck, ho, ht, hs, hg⟩ := hrel
      have k0 := k4.grown hg (fun e => by injection e with e; omega)
      have hpw : p < wr.heap.size := hs.lt
      have hDw : D < wr.heap.size := k0.lt
      obtain ⟨c0, c1, c2, _, _, _⟩ := k0.threeF
      by_cases hk6 : k < 6
      case neg =>
        have hk6' : ¬ (k : Int) < 6 := by omega
        go_wp2_with fail
        go_meet
        exact ⟨cs, by omega, ho, ht, hs, hg⟩
      case pos =>
      have hk6' : (k : Int) < 6 := by omega
      by_cases hn0 : 0 < n
      case neg =>
        have hn0' : ¬ (0 : Int) < (n : Int) := by omega
        go_wp2_with fail
        go_meet
        exact ⟨cs, by omega, ho, ht, hs, hg⟩
      case pos =>
      have hn0' : (0 : Int) < (n : Int) := by omega
      obtain ⟨A6, c6, rfl, hrc⟩ := ho.form
      have Ho := Lib.hid ho; have Ht := Lib.hid ht
      clear ho ht
      go_upto_region 9 with fail
      go_cut [8] (fun s8 wx => ∃ q x y, s8 = Value.pointer (some ⟨q, 0, none⟩) ∧ x < n ∧ y < n ∧ JCh wr p q 1 x y wx)
      case first =>
          refine wp_region_tree [4, 9, 11, 12] (fun w' => SrcOk w' p ∧ wr.grownBy w' (some p)) (fun w' => BxC none wr.heap.size w') 13 [0, 1, 2, 3, 4, 5, 6, 7, 8, 9, 10, 11, 12] (by rfl) (by decide) (by kernel_rfl) (by kernel_rfl) ⟨hs.kept (Below.refl _ _).drew, grownBy_of_below (Below.refl _ _).drew _⟩ BxC.no ?_
          refine TxtT.pure 0 (by rfl) (by rw [List.getElem?_toArray]; rfl) (by rfl) (by kernel_rfl) (by rfl) ?_; apply Exists.intro; refine ⟨fun w1 hS1 => ?_, ?_⟩; (focus (skip; go_simp; with_reducible rfl))
          rw [show List.erase [0, 1, 2, 3, 4, 5, 6, 7, 8, 9, 10, 11, 12] 0 = [1, 2, 3, 4, 5, 6, 7, 8, 9, 10, 11, 12] from rfl]; simp only [Act.put, List.setIfInBounds_toArray, List.set_cons_zero, List.set_cons_succ]
          refine TxtT.pure 1 (by rfl) (by rw [List.getElem?_toArray]; rfl) (by rfl) (by kernel_rfl) (by rfl) ?_; apply Exists.intro; refine ⟨fun w1 hS1 => ?_, ?_⟩; (focus (skip; go_simp; with_reducible rfl))
          rw [show List.erase [1, 2, 3, 4, 5, 6, 7, 8, 9, 10, 11, 12] 1 = [2, 3, 4, 5, 6, 7, 8, 9, 10, 11, 12] from rfl]; simp only [Act.put, List.setIfInBounds_toArray, List.set_cons_zero, List.set_cons_succ]
          refine TxtT.pure 2 (by rfl) (by rw [List.getElem?_toArray]; rfl) (by rfl) (by kernel_rfl) (by rfl) ?_; apply Exists.intro; refine ⟨fun w1 hS1 => ?_, ?_⟩; (focus (skip; go_simp; with_reducible rfl))
          rw [show List.erase [2, 3, 4, 5, 6, 7, 8, 9, 10, 11, 12] 2 = [3, 4, 5, 6, 7, 8, 9, 10, 11, 12] from rfl]; simp only [Act.put, List.setIfInBounds_toArray, List.set_cons_zero, List.set_cons_succ]
          refine TxtT.pure 3 (by rfl) (by rw [List.getElem?_toArray]; rfl) (by rfl) (by kernel_rfl) (by rfl) ?_; apply Exists.intro; refine ⟨fun w1 hS1 => ?_, ?_⟩; (focus ((obtain ⟨g0, g1, g2, _, _, _⟩ := (k0.grown hS1.2 (fun e => by injection e with e; omega)).threeF); go_simp; with_reducible rfl))
          rw [show List.erase [3, 4, 5, 6, 7, 8, 9, 10, 11, 12] 3 = [4, 5, 6, 7, 8, 9, 10, 11, 12] from rfl]; simp only [Act.put, List.setIfInBounds_toArray, List.set_cons_zero, List.set_cons_succ]
          refine TxtT.pure 5 (by rfl) (by rw [List.getElem?_toArray]; rfl) (by rfl) (by kernel_rfl) (by rfl) ?_; apply Exists.intro; refine ⟨fun w1 hS1 => ?_, ?_⟩; (focus (skip; go_simp; with_reducible rfl))
          rw [show List.erase [4, 5, 6, 7, 8, 9, 10, 11, 12] 5 = [4, 6, 7, 8, 9, 10, 11, 12] from rfl]; simp only [Act.put, List.setIfInBounds_toArray, List.set_cons_zero, List.set_cons_succ]
          refine TxtT.pure 6 (by rfl) (by rw [List.getElem?_toArray]; rfl) (by rfl) (by kernel_rfl) (by rfl) ?_; apply Exists.intro; refine ⟨fun w1 hS1 => ?_, ?_⟩; (focus (skip; go_simp; with_reducible rfl))
          rw [show List.erase [4, 6, 7, 8, 9, 10, 11, 12] 6 = [4, 7, 8, 9, 10, 11, 12] from rfl]; simp only [Act.put, List.setIfInBounds_toArray, List.set_cons_zero, List.set_cons_succ]
          refine TxtT.pure 7 (by rfl) (by rw [List.getElem?_toArray]; rfl) (by rfl) (by kernel_rfl) (by rfl) ?_; apply Exists.intro; refine ⟨fun w1 hS1 => ?_, ?_⟩; (focus (skip; go_simp; with_reducible rfl))
          rw [show List.erase [4, 7, 8, 9, 10, 11, 12] 7 = [4, 8, 9, 10, 11, 12] from rfl]; simp only [Act.put, List.setIfInBounds_toArray, List.set_cons_zero, List.set_cons_succ]
          refine TxtT.pure 8 (by rfl) (by rw [List.getElem?_toArray]; rfl) (by rfl) (by kernel_rfl) (by rfl) ?_; apply Exists.intro; refine ⟨fun w1 hS1 => ?_, ?_⟩; (focus ((obtain ⟨g0, g1, g2, _, _, _⟩ := (k0.grown hS1.2 (fun e => by injection e with e; omega)).threeF); go_simp; with_reducible rfl))
          rw [show List.erase [4, 8, 9, 10, 11, 12] 8 = [4, 9, 10, 11, 12] from rfl]; simp only [Act.put, List.setIfInBounds_toArray, List.set_cons_zero, List.set_cons_succ]
          refine TxtT.two 4 11 (by kernel_rfl) (by rw [List.getElem?_toArray]; rfl) (by rw [List.getElem?_toArray]; rfl) (by rfl) (by rfl) (by rfl) (by rfl) (fun v => ∃ x : Nat, x < n ∧ v = Value.int .i64 (x : Int)) (fun _ w' => BxC none wr.heap.size w') (fun v => ∃ q, v = Value.pointer (some ⟨q, 0, none⟩)) (fun v w' => ∃ q, v = Value.pointer (some ⟨q, 0, none⟩) ∧ BxC (some q) wr.heap.size w') (fun w1 hS1 hJ1 => ?_) (fun w1 hS1 hJ1 => ?_) ?_ ?_
          · refine Eff.call (f := 21) (args := #[.pointer (some ⟨p, 0, none⟩), .int .i64 (n : Int)]) (by go_simp) ((n_any p n w1 hS1.1 (by omega) (by omega)).mono ?_)
            rintro e w' ⟨v, rfl, h0, h1, hs, hg⟩
            exact ⟨_, rfl, ⟨hs, grownBy_trans hS1.2 hg⟩, ⟨v.toNat, by omega, by rw [Int.toNat_of_nonneg h0]⟩, BxC.grown hJ1 hg (by have := hS1.2.size; omega)⟩
          · refine Eff.value (w' := w1.alloc (.cells #[.int .i64 0, .int .i64 0, .int .i64 0] 58)) (v := .pointer (some ⟨w1.heap.size, 0, none⟩)) (by go_simp) ⟨⟨hS1.1.kept (newB _ _), grownBy_trans hS1.2 (grownBy_of_below (newB _ _) _)⟩, ⟨_, rfl⟩, _, rfl, BxC.new hS1.2.size⟩
          ·
            rintro _ ⟨x, hxn, rfl⟩
            rw [show List.erase [4, 9, 10, 11, 12] 4 = [9, 10, 11, 12] from rfl]; simp only [Act.put, List.setIfInBounds_toArray, List.set_cons_zero, List.set_cons_succ]
            refine TxtT.two 9 11 (by kernel_rfl) (by rw [List.getElem?_toArray]; rfl) (by rw [List.getElem?_toArray]; rfl) (by rfl) (by rfl) (by rfl) (by rfl) (fun v => ∃ x : Nat, x < n ∧ v = Value.int .i64 (x : Int)) (fun _ w' => BxC none wr.heap.size w') (fun v => ∃ q, v = Value.pointer (some ⟨q, 0, none⟩)) (fun v w' => ∃ q, v = Value.pointer (some ⟨q, 0, none⟩) ∧ BxC (some q) wr.heap.size w') (fun w1 hS1 hJ1 => ?_) (fun w1 hS1 hJ1 => ?_) ?_ ?_
            · refine Eff.call (f := 21) (args := #[.pointer (some ⟨p, 0, none⟩), .int .i64 (n : Int)]) (by go_simp) ((n_any p n w1 hS1.1 (by omega) (by omega)).mono ?_)
              rintro e w' ⟨v, rfl, h0, h1, hs, hg⟩
              exact ⟨_, rfl, ⟨hs, grownBy_trans hS1.2 hg⟩, ⟨v.toNat, by omega, by rw [Int.toNat_of_nonneg h0]⟩, BxC.grown hJ1 hg (by have := hS1.2.size; omega)⟩
            · refine Eff.value (w' := w1.alloc (.cells #[.int .i64 0, .int .i64 0, .int .i64 0] 58)) (v := .pointer (some ⟨w1.heap.size, 0, none⟩)) (by go_simp) ⟨⟨hS1.1.kept (newB _ _), grownBy_trans hS1.2 (grownBy_of_below (newB _ _) _)⟩, ⟨_, rfl⟩, _, rfl, BxC.new hS1.2.size⟩
            ·
              rintro _ ⟨y, hyn, rfl⟩
              rw [show List.erase [9, 10, 11, 12] 9 = [10, 11, 12] from rfl]; simp only [Act.put, List.setIfInBounds_toArray, List.set_cons_zero, List.set_cons_succ]
              refine TxtT.pure 10 (by rfl) (by rw [List.getElem?_toArray]; rfl) (by rfl) (by kernel_rfl) (by rfl) ?_; apply Exists.intro; refine ⟨fun w1 hS1 => ?_, ?_⟩; (focus (skip; go_simp; with_reducible rfl))
              rw [show List.erase [10, 11, 12] 10 = [11, 12] from rfl]; simp only [Act.put, List.setIfInBounds_toArray, List.set_cons_zero, List.set_cons_succ]
              refine TxtT.one 11 (by kernel_rfl) (by rw [List.getElem?_toArray]; rfl) (by rfl) (by rfl) (fun v => ∃ q, v = Value.pointer (some ⟨q, 0, none⟩)) (fun v w' => ∃ q, v = Value.pointer (some ⟨q, 0, none⟩) ∧ BxC (some q) wr.heap.size w') (fun w1 hS1 hJ1 => ?_) ?_
              · refine Eff.value (w' := w1.alloc (.cells #[.int .i64 0, .int .i64 0, .int .i64 0] 58)) (v := .pointer (some ⟨w1.heap.size, 0, none⟩)) (by go_simp) ⟨⟨hS1.1.kept (newB _ _), grownBy_trans hS1.2 (grownBy_of_below (newB _ _) _)⟩, ⟨_, rfl⟩, _, rfl, BxC.new hS1.2.size⟩
              rintro _ ⟨q, rfl⟩
              rw [show List.erase [11, 12] 11 = [12] from rfl]; simp only [Act.put, List.setIfInBounds_toArray, List.set_cons_zero, List.set_cons_succ]
              refine TxtT.weakJ (J2 := fun w' => BxC (some q) wr.heap.size w') (fun w1 h => by obtain ⟨q', hq, h⟩ := h; injection hq with hq; injection hq with hq; injection hq with hq _ _; subst hq; exact h) ?_
              refine TxtT.one 12 (by kernel_rfl) (by rw [List.getElem?_toArray]; rfl) (by rfl) (by rfl) (fun v => v = undef) (fun _ w' => JCh wr p q 1 x y w') (fun w1 hS1 hJ1 => ?_) ?_
              · obtain ⟨hq, hk⟩ := hJ1 q rfl
                obtain ⟨g0, g1, g2, z0, z1, z2⟩ := hk.threeF
                have hst := JCh.of_store (x := x) (y := y) hS1.1 hS1.2 hpw hq hk
                exact Eff.skip (w' := ((w1.setCell ⟨q, 0, none⟩ (.int .i64 1)).setCell ⟨q, 1, none⟩ (.int .i64 (x : Int))).setCell ⟨q, 2, none⟩ (.int .i64 (y : Int))) (by go_simp) ⟨⟨hst.src, hst.grown⟩, rfl, hst⟩
              rintro _ rfl
              rw [show List.erase [12] 12 = [] from rfl]; simp only [Act.put]
              refine ⟨rfl, fun w1 hS1 hJ1 => ?_⟩
              go_wp2_with fail
              go_meet
              exact ⟨q, x, y, rfl, hxn, hyn, hJ1⟩
            ·
              rintro _ ⟨q, rfl⟩
              rw [show List.erase [9, 10, 11, 12] 11 = [9, 10, 12] from rfl]; simp only [Act.put, List.setIfInBounds_toArray, List.set_cons_zero, List.set_cons_succ]
              refine TxtT.weakJ (J2 := fun w' => BxC (some q) wr.heap.size w') (fun w1 h => by obtain ⟨q', hq, h⟩ := h; injection hq with hq; injection hq with hq; injection hq with hq _ _; subst hq; exact h) ?_
              refine TxtT.one 9 (by kernel_rfl) (by rw [List.getElem?_toArray]; rfl) (by rfl) (by rfl) (fun v => ∃ x : Nat, x < n ∧ v = Value.int .i64 (x : Int)) (fun _ w' => BxC (some q) wr.heap.size w') (fun w1 hS1 hJ1 => ?_) ?_
              · refine Eff.call (f := 21) (args := #[.pointer (some ⟨p, 0, none⟩), .int .i64 (n : Int)]) (by go_simp) ((n_any p n w1 hS1.1 (by omega) (by omega)).mono ?_)
                rintro e w' ⟨v, rfl, h0, h1, hs, hg⟩
                exact ⟨_, rfl, ⟨hs, grownBy_trans hS1.2 hg⟩, ⟨v.toNat, by omega, by rw [Int.toNat_of_nonneg h0]⟩, BxC.grown hJ1 hg (by have := hS1.2.size; omega)⟩
              rintro _ ⟨y, hyn, rfl⟩
              rw [show List.erase [9, 10, 12] 9 = [10, 12] from rfl]; simp only [Act.put, List.setIfInBounds_toArray, List.set_cons_zero, List.set_cons_succ]
              refine TxtT.pure 10 (by rfl) (by rw [List.getElem?_toArray]; rfl) (by rfl) (by kernel_rfl) (by rfl) ?_; apply Exists.intro; refine ⟨fun w1 hS1 => ?_, ?_⟩; (focus (skip; go_simp; with_reducible rfl))
              rw [show List.erase [10, 12] 10 = [12] from rfl]; simp only [Act.put, List.setIfInBounds_toArray, List.set_cons_zero, List.set_cons_succ]
              refine TxtT.one 12 (by kernel_rfl) (by rw [List.getElem?_toArray]; rfl) (by rfl) (by rfl) (fun v => v = undef) (fun _ w' => JCh wr p q 1 x y w') (fun w1 hS1 hJ1 => ?_) ?_
              · obtain ⟨hq, hk⟩ := hJ1 q rfl
                obtain ⟨g0, g1, g2, z0, z1, z2⟩ := hk.threeF
                have hst := JCh.of_store (x := x) (y := y) hS1.1 hS1.2 hpw hq hk
                exact Eff.skip (w' := ((w1.setCell ⟨q, 0, none⟩ (.int .i64 1)).setCell ⟨q, 1, none⟩ (.int .i64 (x : Int))).setCell ⟨q, 2, none⟩ (.int .i64 (y : Int))) (by go_simp) ⟨⟨hst.src, hst.grown⟩, rfl, hst⟩
              rintro _ rfl
              rw [show List.erase [12] 12 = [] from rfl]; simp only [Act.put]
              refine ⟨rfl, fun w1 hS1 hJ1 => ?_⟩
              go_wp2_with fail
              go_meet
              exact ⟨q, x, y, rfl, hxn, hyn, hJ1⟩
          ·
            rintro _ ⟨q, rfl⟩
            rw [show List.erase [4, 9, 10, 11, 12] 11 = [4, 9, 10, 12] from rfl]; simp only [Act.put, List.setIfInBounds_toArray, List.set_cons_zero, List.set_cons_succ]
            refine TxtT.weakJ (J2 := fun w' => BxC (some q) wr.heap.size w') (fun w1 h => by obtain ⟨q', hq, h⟩ := h; injection hq with hq; injection hq with hq; injection hq with hq _ _; subst hq; exact h) ?_
            refine TxtT.one 4 (by kernel_rfl) (by rw [List.getElem?_toArray]; rfl) (by rfl) (by rfl) (fun v => ∃ x : Nat, x < n ∧ v = Value.int .i64 (x : Int)) (fun _ w' => BxC (some q) wr.heap.size w') (fun w1 hS1 hJ1 => ?_) ?_
            · refine Eff.call (f := 21) (args := #[.pointer (some ⟨p, 0, none⟩), .int .i64 (n : Int)]) (by go_simp) ((n_any p n w1 hS1.1 (by omega) (by omega)).mono ?_)
              rintro e w' ⟨v, rfl, h0, h1, hs, hg⟩
              exact ⟨_, rfl, ⟨hs, grownBy_trans hS1.2 hg⟩, ⟨v.toNat, by omega, by rw [Int.toNat_of_nonneg h0]⟩, BxC.grown hJ1 hg (by have := hS1.2.size; omega)⟩
            rintro _ ⟨x, hxn, rfl⟩
            rw [show List.erase [4, 9, 10, 12] 4 = [9, 10, 12] from rfl]; simp only [Act.put, List.setIfInBounds_toArray, List.set_cons_zero, List.set_cons_succ]
            refine TxtT.one 9 (by kernel_rfl) (by rw [List.getElem?_toArray]; rfl) (by rfl) (by rfl) (fun v => ∃ x : Nat, x < n ∧ v = Value.int .i64 (x : Int)) (fun _ w' => BxC (some q) wr.heap.size w') (fun w1 hS1 hJ1 => ?_) ?_
            · refine Eff.call (f := 21) (args := #[.pointer (some ⟨p, 0, none⟩), .int .i64 (n : Int)]) (by go_simp) ((n_any p n w1 hS1.1 (by omega) (by omega)).mono ?_)
              rintro e w' ⟨v, rfl, h0, h1, hs, hg⟩
              exact ⟨_, rfl, ⟨hs, grownBy_trans hS1.2 hg⟩, ⟨v.toNat, by omega, by rw [Int.toNat_of_nonneg h0]⟩, BxC.grown hJ1 hg (by have := hS1.2.size; omega)⟩
            rintro _ ⟨y, hyn, rfl⟩
            rw [show List.erase [9, 10, 12] 9 = [10, 12] from rfl]; simp only [Act.put, List.setIfInBounds_toArray, List.set_cons_zero, List.set_cons_succ]
            refine TxtT.pure 10 (by rfl) (by rw [List.getElem?_toArray]; rfl) (by rfl) (by kernel_rfl) (by rfl) ?_; apply Exists.intro; refine ⟨fun w1 hS1 => ?_, ?_⟩; (focus (skip; go_simp; with_reducible rfl))
            rw [show List.erase [10, 12] 10 = [12] from rfl]; simp only [Act.put, List.setIfInBounds_toArray, List.set_cons_zero, List.set_cons_succ]
            refine TxtT.one 12 (by kernel_rfl) (by rw [List.getElem?_toArray]; rfl) (by rfl) (by rfl) (fun v => v = undef) (fun _ w' => JCh wr p q 1 x y w') (fun w1 hS1 hJ1 => ?_) ?_
            · obtain ⟨hq, hk⟩ := hJ1 q rfl
              obtain ⟨g0, g1, g2, z0, z1, z2⟩ := hk.threeF
              have hst := JCh.of_store (x := x) (y := y) hS1.1 hS1.2 hpw hq hk
              exact Eff.skip (w' := ((w1.setCell ⟨q, 0, none⟩ (.int .i64 1)).setCell ⟨q, 1, none⟩ (.int .i64 (x : Int))).setCell ⟨q, 2, none⟩ (.int .i64 (y : Int))) (by go_simp) ⟨⟨hst.src, hst.grown⟩, rfl, hst⟩
            rintro _ rfl
            rw [show List.erase [12] 12 = [] from rfl]; simp only [Act.put]
            refine ⟨rfl, fun w1 hS1 hJ1 => ?_⟩
            go_wp2_with fail
            go_meet
            exact ⟨q, x, y, rfl, hxn, hyn, hJ1⟩
      obtain ⟨q, x, y, rfl, hxn, hyn, hJ⟩ := hcut
      obtain ⟨W5, hW5⟩ : ∃ W, W = wc := ⟨_, rfl⟩
      subst hW5
      have hg5 := grownBy_trans hg hJ.grown
      have k5 := k4.grown hg5 (fun e => by injection e with e; omega)
      have hhas := r10Has_any A3 n l c3 x y W5 ((HV4.out.grown hg5 hpm).rp) HV.out.1.2.1
      rw [nGl_vld HV.out] at hhas
      obtain ⟨c0, c1, c2, _, _, _⟩ := k5.threeF
      obtain ⟨e0, e1, e2, _, _, _⟩ := hJ.blk.threeF
      go_wp2_with fail
      refine hhas.mono ?_
      rintro e w6 ⟨rfl, hb6⟩
      have hJ6 := hJ.below hb6
      clear hhas c0 c1 c2 e0 e1 e2 k5 hJ hb6
      obtain ⟨e0, e1, e2, f0, f1, f2⟩ := hJ6.blk.threeF
      go_upto_if 57 with fail
      go_cut [8] (fun s8 wx => s8 = Value.pointer (some ⟨q, 0, none⟩) ∧ JCh wr p q (if hasB l x y = true then 2 else 1) x y wx)
      case first =>
        cases hh : hasB l x y
        · go_wp2_with fail
          go_meet
          exact ⟨rfl, by rw [if_neg (by rw [hh]; simp)]; exact hJ6⟩
        · go_wp2_with fail
          go_meet
          exact ⟨rfl, by rw [if_pos hh]; exact hJ6.set0 hpw 2⟩
      obtain ⟨rfl, hJ7⟩ := hcut
      obtain ⟨W7, hW7⟩ : ∃ W, W = wc := ⟨_, rfl⟩
      subst hW7
      obtain ⟨kd, hkd⟩ : ∃ kd : Int, (if hasB l x y = true then 2 else 1) = kd := ⟨_, rfl⟩
      rw [hkd] at hJ7
      have HK := Lib.hid hkd
      have hg7 := grownBy_trans hg hJ7.grown
      have Hrc7 := Lib.hid (hrc.grown hJ7.grown fun b o e => by have := (World.ownsRow.lt Ho.out b (by rw [e]; rfl)).1; omega)
      have Ho7 := Lib.hid (Ho.out.grown hJ7.grown hp4)
      have Hs7 := Lib.hid hJ7.src
      have hq4 : W4.heap.size ≤ W7.heap.size := hg7.size
      have k7 := hJ7.blk
      have hcs6 : cs.length ≤ 6 := by omega
      obtain ⟨C, hC⟩ : ∃ C : Int × Int × Int, (kd, (x : Int), (y : Int)) = C := ⟨_, rfl⟩
      have HC := Lib.hid hC
      clear hkd hrc hs hJ6 hJ7 e0 e1 e2 f0 f1 f2 hC
      go_wp2_with fail
      go_loopw [9, 61] (fun v9 ii wi => ∃ i : Nat, i ≤ cs.length ∧ ii = .int .i64 i ∧ v9 = .bool (dupB (cs.take i) C) ∧ Below W7.heap.size W7 wi) (fun _ ii _ => cs.length - (intOf ii).toNat)
      case atStart => exact ⟨0, by omega, rfl, rfl, Below.refl _ _⟩
      case round =>
        obtain ⟨i, hi, rfl, rfl, hbi⟩ := hrel
        obtain ⟨wi, hwi⟩ : ∃ x, x = wr := ⟨_, rfl⟩
        subst hwi
        have ki := k7.below hbi k7.lt
        obtain ⟨e0, e1, e2, _, _, _⟩ := ki.threeF
        have hszi : W4.heap.size ≤ wi.heap.size := Nat.le_trans hq4 hbi.size
        by_cases hil : i < cs.length
        case neg =>
          have hil' : ¬ (i : Int) < (cs.length : Int) := by omega
          rw [List.take_of_length_le (by omega)]
          have hbi4 := hbi.mono hq4
          cases hd : dupB cs C
          · have Hd := Lib.hid hd
            have Hown := Lib.hid (Ho7.out.below hbi)
            have Hsi := Lib.hid (Hs7.out.kept hbi)
            clear hd
            go_wp2_with (at_builtin; refine wpList_appC (by rfl) _ _ (by rfl) wi W4.heap.size _ cs kd (x : Int) (y : Int) Hown.out (by rfl) (by rfl) (by omega) hszi ?_; intro v' w8 hown8 hb8 hg8)
            go_roundw
            case rel => exact ⟨k + 1, cs ++ [(kd, (x : Int), (y : Int))], by omega, by go_num, by simp; omega, hown8, Ht.out.snoc hxn hyn HK.out.symm (by rw [HC.out]; exact dupB_no Hd.out), OwnC.src Hown.out Hsi.out hp4 hg8, grown_below (grown_below hg7 hbi4) hb8⟩
            case measure => simp [intOf]; omega
          · clear hd
            go_wp2_with fail
            go_roundw
            case rel => exact ⟨k + 1, cs, by omega, by go_num, by omega, Ho7.out.below hbi, Ht.out, Hs7.out.kept hbi, grown_below hg7 hbi4⟩
            case measure => simp [intOf]; omega
        case pos =>
        have hil' : (i : Int) < (cs.length : Int) := by omega
        have hi0 : (0 : Int) ≤ (i : Int) := by omega
        obtain ⟨b, o, rfl, h0, h1, h2⟩ := (Hrc7.out.below hbi) i hil
        have hsn := dupB_snoc (c := C) hil
        obtain ⟨⟨k', x', y'⟩, hq⟩ : ∃ q, cs.getD i (0, 0, 0) = q := ⟨_, rfl⟩
        rw [hq] at h0 h1 h2
        have hq' : cs[i] = (k', x', y') := by rw [← hq]; simp [List.getD, hil]
        have heq : eqC (k', x', y') C = (k' == kd && (x' == (x : Int) && y' == (y : Int))) := by rw [← HC.out]; rfl
        rw [hq', heq] at hsn
        simp only at h0 h1 h2
        have Hsn := Lib.hid hsn
        clear hsn hq hq' heq
        go_upto_region 16 with fail
        obtain ⟨W8, hW8, k8, hb8, _⟩ := boxed3 wi 58 (.int .i64 k') (.int .i64 x') (.int .i64 y')
        rw [hW8]
        obtain ⟨g0, g1, g2, _, _, _⟩ := k8.threeF
        obtain ⟨e0, e1, e2, _, _, _⟩ := (ki.below hb8 ki.lt).threeF
        have hbi8 := endB hbi hb8
        have hev := run_eqlC k' x' y' kd (x : Int) (y : Int)
        clear hW8 ki k8 hb8 h0 h1 h2
        generalize dupB (cs.take i) C = du at *
        cases du
        · rw [Bool.false_or] at Hsn
          generalize (k' == kd && (x' == (x : Int) && y' == (y : Int))) = v at *
          go_wp2_with fail
          go_roundw
          case rel => exact ⟨i + 1, by omega, by go_num, by rw [Hsn.out], hbi8⟩
          case measure => simp [intOf]; omega
        · rw [Bool.true_or] at Hsn
          clear hev
          go_wp2_with fail
          go_roundw
          case rel => exact ⟨i + 1, by omega, by go_num, by rw [Hsn.out], hbi8⟩
          case measure => simp [intOf]; omega
  obtain ⟨cs, hcs6, ho, ht, hs, hg⟩ := hcut
  obtain ⟨W5, hW5⟩ : ∃ W, W = wc := ⟨_, rfl⟩
  subst hW5
  obtain ⟨A6, c6, rfl, hrc⟩ := ho.form
  have k5 := k4.grown hg (fun e => by injection e with e; omega)
  have hV5 := HV4.out.grown hg hpm
  have hbb5 : Below w.heap.size w W5 := Hbb4.out.grown hg Hbb4.out.size (fun k hk => by injection hk with hk; omega)
  have hvt := grid_vld (p := fun a b => hasB l a b != namB cs a b) HV.out.1.1
  have hrun1 := fun (W : World) (h : DyV W m0 l (lst n (grL n l)) A3 c3 B3 d3) (hT : Tab W) (hC : RC W A6 cs) => run_good HV.out A3 c3 B3 d3 A6 cs c6 W m0 h hT hC (by omega)
  have hrun2 := fun (W : World) (h : DyV W m0 l (lst n (grL n l)) A3 c3 B3 d3) (hT : Tab W) (C : Option Addr) (cc : Nat) (hC : RC W C cs.reverse) => run_good HV.out A3 c3 B3 d3 C cs.reverse cc W m0 h hT hC (by rw [List.length_reverse]; omega)
  rw [run_tog HV.out ht, HG.out] at hrun1
  rw [run_tog HV.out ht.rev, HG.out, List.length_reverse, tog_rev] at hrun2
  simp only at hrun1 hrun2
  have hLl : (togL n l cs).length ≤ 100000 := hvt.1.2.1
  generalize togL n l cs = L1 at *
  have hGl : (lst n (grL n L1)).length ≤ 100000 := by rw [lst_length]; omega
  generalize lst n (grL n L1) = G1 at *
  have hsm := fun (A B C D : Option Addr) (c1 c2 d1 d2 : Nat) (W : World) (h1 : RP W A L1) (h2 : RP W B L1) (h3 : RI W C G1) (h4 : RI W D G1) => same19_any A B C D n n L1 L1 G1 G1 c1 c2 d1 d2 W h1 h2 h3 h4 hLl hLl hGl hGl
  rw [show sameD (n : Int) L1 G1 n L1 G1 = true by simp [sameD, sameB, eqB]] at hsm
  have Hsm := Lib.hid hsm; have Hrun1 := Lib.hid hrun1; have Hrun2 := Lib.hid hrun2
  have HV5 := Lib.hid hV5; have Hrc := Lib.hid hrc; have Hbb5 := Lib.hid hbb5
  have hll : ((cs.length : Int) == (cs.length : Int)) = true := by simp
  clear hvt ht hsm hrun1 hrun2 hV5 hrc hbb5 ho hs k4 Hs4 HV4 Hbb4 HV HG hLl hGl
  go_wp2_with fail
  go_loopw [12, 13] (fun v12 ii wr => ∃ j : Nat, j ≤ cs.length ∧ ii = .int .i64 ((cs.length : Int) - 1 - j) ∧ OwnC wr W5.heap.size v12 (cs.reverse.take j) ∧ Below W5.heap.size W5 wr) (fun _ ii _ => (intOf ii + 1).toNat)
  case atStart => exact ⟨0, by omega, by go_num, OwnC.nil _ _, Below.refl _ _⟩
  case round =>
    obtain ⟨j, hj, rfl, ho, hbl⟩ := hrel
    by_cases hjl : j < cs.length
    case pos =>
      obtain ⟨i, hi⟩ : ∃ i : Nat, cs.length - 1 - j = i := ⟨_, rfl⟩
      have hi' : (cs.length : Int) - 1 - j = (i : Int) := by omega
      have hil : i < cs.length := by omega
      have hra := rev_at hjl
      rw [hi] at hra
      rw [hi']
      have hil' : (i : Int) < (cs.length : Int) := by omega
      have hi0 : (0 : Int) ≤ (i : Int) := by omega
      obtain ⟨b, o, rfl, h0, h1, h2⟩ := (Hrc.out.below hbl) i hil
      obtain ⟨⟨k', x', y'⟩, hq⟩ : ∃ q, cs.getD i (0, 0, 0) = q := ⟨_, rfl⟩
      rw [hq] at h0 h1 h2 hra
      simp only at h0 h1 h2
      have hlen : (cs.reverse.take j).length ≤ 1000000 := by simp; omega
      have Hra := Lib.hid hra; have Ho := Lib.hid ho
      obtain ⟨A12, c12, rfl, _⟩ := ho.form
      clear hra ho hq hi'
      generalize cs.reverse.take j = bk at *
      go_wp2_with (at_builtin; refine wpList_appC (by rfl) _ _ (by rfl) wr W5.heap.size _ bk k' x' y' Ho.out (by rfl) (by rfl) hlen hbl.size ?_; intro v' w8 hown8 hb8 _)
      go_roundw
      case rel => exact ⟨j + 1, by omega, by go_num, by rw [Hra.out]; exact hown8, hbl.trans hb8⟩
      case measure => simp [intOf]
    case neg =>
    obtain rfl : j = cs.length := by omega
    rw [show (cs.length : Int) - 1 - (cs.length : Int) = -1 by omega]
    rw [List.take_of_length_le (by simp)] at ho
    obtain ⟨A12, c12, rfl, hrc12⟩ := ho.form
    rw [List.length_reverse]
    have k6 := k5.below hbl k5.lt
    have hbb6 := endB Hbb5.out hbl
    have hV6 := HV5.out.below hbl
    have Hr1 := Lib.hid (Hrun1.out wr hV6 (HT0.out.below hbb6) (Hrc.out.below hbl))
    obtain ⟨c0, c1, c2, _, _, _⟩ := k6.threeF
    clear ho hbl k5 Hrun1 hj
    go_wp2_with fail
    refine Hr1.out.mono ?_
    rintro e w7 ⟨A7, c7, B7, d7, rfl, hVa7, hb7⟩
    go_upto_region 26 with fail
    obtain ⟨W8, hW8, ka8, hb8, _⟩ := boxed3 w7 52 (.int .i64 (n : Int)) (.slice A7 L1.length c7) (.slice B7 G1.length d7)
    rw [hW8]
    have hb := hb7.trans (hb8.mono hb7.size)
    have k8 := k6.below hb k6.lt
    have hV8 := hV6.below hb
    have hVa8 := hVa7.below hb8
    have hbb8 := endB hbb6 hb
    have Hr2 := Lib.hid (Hrun2.out W8 hV8 (HT0.out.below hbb8) A12 c12 (hrc12.below hb))
    obtain ⟨c0, c1, c2, _, _, _⟩ := k8.threeF
    clear hW8 hb7 hb8 hb k6 hV6 hVa7 hbb6 Hr1 Hrun2 hrc12
    go_wp2_with fail
    refine Hr2.out.mono ?_
    rintro e w9 ⟨A9, c9, B9, d9, rfl, hVb9, hb9⟩
    go_upto_region 27 with fail
    obtain ⟨W10, hW10, kb10, hb10, _⟩ := boxed3 w9 52 (.int .i64 (n : Int)) (.slice A9 L1.length c9) (.slice B9 G1.length d9)
    rw [hW10]
    have hb := hb9.trans (hb10.mono hb9.size)
    have ka10 := ka8.below hb ka8.lt
    have hVa10 := hVa8.below hb
    have hVb10 := hVb9.below hb10
    have hbb10 := endB hbb8 hb
    obtain ⟨c0, c1, c2, _, _, _⟩ := ka10.threeF
    obtain ⟨b0, b1, b2, _, _, _⟩ := kb10.threeF
    clear hW10 hb9 hb10 hb k8 hV8 hVa8 hVb9 hbb8 Hr2
    go_wp2_with fail
    refine (Hsm.out _ _ _ _ _ _ _ _ W10 hVa10.rp hVb10.rp hVa10.ri hVb10.ri).mono ?_
    rintro e w11 ⟨rfl, hb11⟩
    have hbb11 := endB hbb10 hb11
    clear hb11 ka10 kb10 c0 c1 c2 b0 b1 b2 hVa10 hVb10 hbb10
    go_wp2_with fail
    refine (awake19_any w11 (HT0.out.below hbb11)).mono ?_
    rintro e w12 ⟨rfl, hb12⟩
    go_wp2_with fail
    go_ret
    exact ⟨rfl, endB hbb11 hb12⟩
end Go.Proofs.YtkflanjlnbdkmaaDoor
