import Derived.Test.YtncimnfhfomddaaDoorEn3
import Derived.Test.YtncimnfhfomddaaDoorGenM
import Derived.Test.YtncimnfhfomddaaDoorGam
/- enforce.strict. -/
namespace Go.Proofs.YtncimnfhfomddaaDoor
open Go.ChangeShapes Go.WideShapes Go.ChangeAt Go.RowKit

set_option maxRecDepth 100000 in
set_option maxHeartbeats 1000000 in
theorem enClone_any (A : Option Addr) (l : List Int) (c : Nat) (w : World) (hr : RI w A l) (hn : A = none → l = [] ∧ c = 0) (hl : l.length ≤ 100000) :
    Calls Tryd.prog 108 #[.slice A l.length c] w (RetI l w) := by
  cases A with
  | none =>
    obtain ⟨rfl, rfl⟩ := hn rfl
    have heq : ∀ W : World, (binOp .eql 25 (.slice none 0 0) (.slice none 0 0)).run Tryd.prog W = .ok (.bool true) W := fun W => Lib.run_eql_slice_nil W _ _ none _ _ 0 0 Tryd.underlying25
    go_enter Tryd.func108, Tryd.ntmps108
    go_wp2_with fail
    go_ret
    exact RetI.nil (Below.refl _ _)
  | some ad =>
    have Hr := Lib.hid (hr.below (newB w (.cells #[] 3)))
    clear hr hn
    have heq : ∀ W : World, (binOp .eql 25 (.slice (some ad) l.length c) (.slice none 0 0)).run Tryd.prog W = .ok (.bool false) W := fun W => Lib.run_eql_slice_nil W _ _ (some ad) _ _ 0 0 Tryd.underlying25
    go_enter Tryd.func108, Tryd.ntmps108
    go_wp2_with (at_builtin; refine wpList_appIs (by rfl) _ _ (by rfl) (w.alloc (.cells #[] 3)) w.heap.size _ [] (some ad) l c (own_empty w) Hr.out (by simp) (by rfl) (by rfl) (by simp; omega) (by simp) ?_; intro v' w1 hown hb1 hg1; rw [List.nil_append] at hown; (obtain ⟨A', c', rfl, _, _⟩ := OwnI.form hown); have Hown := Lib.hid hown; clear hown hg1)
    go_ret
    exact RetI.mk Hown.out ((newB w _).trans hb1)
theorem duties_any (A : Option Addr) (n : Nat) (G : List (Int × Int)) (c : Nat) (Bs : Option Addr) (s : List Int) (cs : Nat) (kind : Int) (w : World) (hr : RP w A G) (hv : Vld n G) (hs : RI w Bs s) (hst : setB n s = true) (hT : Tab w) (hkd : kind = 1 ∨ kind = 2) :
    Calls Tryd.prog 66 #[.agg #[.int .i64 (n : Int), .slice A G.length c], .slice Bs s.length cs, .int .i64 kind] w (RetTL (dutL n G s kind) w) := by
  rcases hkd with rfl | rfl
  · exact duties1_any A n G c Bs s cs w hr hv hs hst hT
  · exact duties2_any A n G c Bs s cs w hr hv hs hst hT
theorem own_apart {w : World} {base size n g : Nat} {e t : TypeId} {v : Value} {xs : List Value} {cs : Array Value} (h : w.ownsRow base e size v n xs) (k : Blk w g t cs) (hne : t ≠ e) : v.ownBlock ≠ some g := by
  obtain ⟨_, h2⟩ := h
  rcases h2 with ⟨rfl, _⟩ | ⟨q, cap, cur, rfl, _, hg, _⟩
  · simp [Value.ownBlock]
  · intro e'
    simp only [Value.ownBlock, Option.some.injEq] at e'
    subst e'
    unfold Blk at k
    rw [hg] at k
    simp only [Option.some.injEq, Obj.cells.injEq] at k
    exact hne k.2.1.symm
theorem OwnTL.apartB {w w' : World} {base g : Nat} {xs : List Value} {ls : List (List (Int × Int))} {t : TypeId} {cs : Array Value} (h : OwnTL w base xs ls) (k : Blk w g t cs) (hne : t ≠ 42) (hg : w.grownBy w' (some g)) : OwnTL w' base xs ls :=
  ⟨h.1, fun j hj => by
    obtain ⟨A, c, h1, h2⟩ := h.2 j hj
    refine ⟨A, c, h1, h2.kept fun b o hA => hg.block b (h2.lt hA) (fun e => ?_)⟩
    injection e with e
    subst e
    obtain ⟨cs', hc⟩ := (h2.2 b o hA).2
    unfold Blk at k
    rw [hc] at k
    simp only [Option.some.injEq, Obj.cells.injEq] at k
    exact hne k.2.1.symm⟩
/-- the clone that may have been made -/
def ClC (B : Nat) (s : List Int) (o : Option (Option Addr × Nat)) (w : World) : Prop := ∀ A c, o = some (A, c) → OwnI w B (.slice A s.length c) s
/-- the duties that may have been made -/
def DuC (B : Nat) (L : List (List (Int × Int))) (o : Option (Option Addr × Nat)) (w : World) : Prop := ∀ A c, o = some (A, c) → ∃ xs, OwnTS w B (.slice A L.length c) xs ∧ OwnTL w B xs L
theorem ClC.no {B : Nat} {s : List Int} {w : World} : ClC B s none w := fun _ _ e => by cases e
theorem DuC.no {B : Nat} {L : List (List (Int × Int))} {w : World} : DuC B L none w := fun _ _ e => by cases e
theorem ClC.below {B : Nat} {s : List Int} {o : Option (Option Addr × Nat)} {w w' : World} (h : ClC B s o w) (hb : Below w.heap.size w w') : ClC B s o w' := fun A c e => ownsRow_below (h A c e) hb
theorem DuC.below {B : Nat} {L : List (List (Int × Int))} {o : Option (Option Addr × Nat)} {w w' : World} (h : DuC B L o w) (hb : Below w.heap.size w w') : DuC B L o w' := fun A c e => by
  obtain ⟨xs, h1, h2⟩ := h A c e
  exact ⟨xs, ownsRow_below h1 hb, h2.below hb⟩
/-- the call returns an enforcement -/
def RetEn (s : List Int) (C : List (Int × Int)) (L : List (List (Int × Int))) (w : World) : Ending → World → Prop := fun e w' => ∃ AC cC AH cH AD cD xs, e = .returned (.agg #[.slice AC s.length cC, .slice AH C.length cH, .slice AD L.length cD]) ∧ OwnI w' w.heap.size (.slice AC s.length cC) s ∧ OwnP w' w.heap.size (.slice AH C.length cH) C ∧ OwnTS w' w.heap.size (.slice AD L.length cD) xs ∧ OwnTL w' w.heap.size xs L ∧ Below w.heap.size w w'
/-- the enforcement's box, with the clone and the duties -/
structure StJ (B : Nat) (s : List Int) (L : List (List (Int × Int))) (AC : Option Addr) (cC : Nat) (AD : Option Addr) (cD q : Nat) (w : World) : Prop where
  hq : B ≤ q
  box : Blk w q 28 #[.slice AC s.length cC, .slice none 0 0, .slice AD L.length cD]
  cl : OwnI w B (.slice AC s.length cC) s
  du : ∃ xs, OwnTS w B (.slice AD L.length cD) xs ∧ OwnTL w B xs L
theorem stj_made {B : Nat} {s : List Int} {L : List (List (Int × Int))} {AC : Option Addr} {cC : Nat} {AD : Option Addr} {cD q : Nat} {w : World} {xs : List Value} (hq : B ≤ q) (hk : Blk w q 28 #[.slice none 0 0, .slice none 0 0, .slice none 0 0])
    (hc : OwnI w B (.slice AC s.length cC) s) (ho : OwnTS w B (.slice AD L.length cD) xs) (hl : OwnTL w B xs L) :
    StJ B s L AC cC AD cD q (((w.setCell ⟨q, 0, none⟩ (.slice AC s.length cC)).setCell ⟨q, 1, none⟩ (.slice none 0 0)).setCell ⟨q, 2, none⟩ (.slice AD L.length cD)) := by
  have hg : w.grownBy (((w.setCell ⟨q, 0, none⟩ (.slice AC s.length cC)).setCell ⟨q, 1, none⟩ (.slice none 0 0)).setCell ⟨q, 2, none⟩ (.slice AD L.length cD)) (some q) := grownBy_trans (grownBy_trans (grownBy_setCell w q 0 _) (grownBy_setCell _ q 1 _)) (grownBy_setCell _ q 2 _)
  exact ⟨hq, ((hk.set_ 0 _).set_ 1 _).set_ 2 _, World.ownsRow.kept hc hg (.inr (own_apart hc hk (by decide))), xs, World.ownsRow.kept ho hg (.inr (own_apart ho hk (by decide))), hl.apartB hk (by decide) hg⟩

theorem boxE (w : World) : ∃ W0, w.alloc (.cells #[.slice none 0 0, .slice none 0 0, .slice none 0 0] 28) = W0 ∧ Blk W0 w.heap.size 28 #[.slice none 0 0, .slice none 0 0, .slice none 0 0] ∧ Below w.heap.size w W0 ∧ W0.heap.size = w.heap.size + 1 := ⟨_, rfl, Blk.new _ _ _, (Below.refl _ _).alloc (Nat.le_refl _) _, by simp⟩
set_option maxRecDepth 100000 in
set_option maxHeartbeats 4000000 in
theorem strict_any (A : Option Addr) (n : Nat) (G : List (Int × Int)) (c : Nat) (Bs : Option Addr) (s : List Int) (cs : Nat) (kind : Int) (w : World) (hr : RP w A G) (hv : Vld n G) (hs : RI w Bs s) (hsn : Bs = none → s = [] ∧ cs = 0) (hst : setB n s = true) (hT : Tab w) (hkd : kind = 1 ∨ kind = 2) (hh : hpB n s kind = false) :
    Calls Tryd.prog 61 #[.agg #[.int .i64 (n : Int), .slice A G.length c], .slice Bs s.length cs, .int .i64 kind] w (RetEn s (strC n G s kind) (dutL n G s kind) w) := by
  have hn := hv.1.1
  obtain ⟨hsr, hm⟩ := setB_mask hn hst
  have hls := setB_len hst
  have hLl : (dutL n G s kind).length ≤ 200000 := by
    unfold dutL
    have h1 := dutA_len (maskN s) G
    have h2 := hv.1.2.1
    have h3 := dutB_len n G s kind n
    unfold dutB at h3
    rw [List.length_append]
    omega
  have hok := dut_ok hv hst hh hkd
  have hof := fun w hs => enOf_any Bs s cs w hs (by omega) hsr
  have hcl := fun w hs => enClone_any Bs s cs w hs hsn (by omega)
  have hdu := fun w hr hs hT => duties_any A n G c Bs s cs kind w hr hv hs hst hT hkd
  obtain ⟨L, hL⟩ : ∃ L, dutL n G s kind = L := ⟨_, rfl⟩
  rw [hL] at hok hdu hLl
  have Hof := Lib.hid hof; have Hcl := Lib.hid hcl; have Hdu := Lib.hid hdu; have Hv := Lib.hid hv; have Hm := Lib.hid hm; have Hok := Lib.hid hok; have HL := Lib.hid hL
  clear hof hcl hdu hst hsn hok hL
  go_enter Tryd.func61, Tryd.ntmps61
  go_wp2_with fail
  obtain ⟨W0, hW, k0, hb0, hs0⟩ := boxG w (n : Int) A G.length c
  rw [hW]
  obtain ⟨W1, hW1, k1, hb1, hs1'⟩ := boxE W0
  rw [hW1]
  have hb01 := endB hb0 hb1
  have k01 := k0.below hb1 k0.lt
  clear hW hW1 k0 hb0 hb1
  refine (Hof.out W1 (hs.below hb01)).mono ?_
  rintro e w2 ⟨rfl, rfl⟩
  have hr1 := hr.below hb01
  have hs1 := hs.below hb01
  have hT1 := hT.below hb01
  obtain ⟨d0, d1, _, _⟩ := k01.two
  go_upto_region 2 with fail
  go_cut [8] (fun b wx => ∃ q AC cC AD cD, b = Value.pointer (some ⟨q, 0, none⟩) ∧ StJ W1.heap.size s L AC cC AD cD q wx ∧ Below W1.heap.size W1 wx)
  case first =>
    refine wp_region_tree [1, 5, 7, 8] (fun w' => Below W1.heap.size W1 w') (fun w' => ClC W1.heap.size s none w' ∧ DuC W1.heap.size L none w' ∧ BxC 28 #[.slice none 0 0, .slice none 0 0, .slice none 0 0] none W1.heap.size w') 9 [0, 1, 2, 3, 4, 5, 6, 7, 8] (by rfl) (by decide) (by kernel_rfl) (by kernel_rfl) (Below.refl _ _).drew ⟨ClC.no, DuC.no, BxC.no⟩ ?_
    refine TxtT.pure 0 (by rfl) (by rw [List.getElem?_toArray]; rfl) (by rfl) (by as_aux_lemma => kernel_rfl) (by rfl) ?_; apply Exists.intro; refine ⟨fun w1 hS1 => ?_, ?_⟩; (focus (skip; go_simp; with_reducible rfl))
    rw [show List.erase [0, 1, 2, 3, 4, 5, 6, 7, 8] 0 = [1, 2, 3, 4, 5, 6, 7, 8] from rfl]; simp only [Act.put, List.setIfInBounds_toArray, List.set_cons_zero, List.set_cons_succ]
    refine TxtT.pure 2 (by rfl) (by rw [List.getElem?_toArray]; rfl) (by rfl) (by as_aux_lemma => kernel_rfl) (by rfl) ?_; apply Exists.intro; refine ⟨fun w1 hS1 => ?_, ?_⟩; (focus ((have g0 := (hS1.cell (lt_of_cell d0)).trans d0; have g1 := (hS1.cell (lt_of_cell d1)).trans d1); go_simp; with_reducible rfl))
    rw [show List.erase [1, 2, 3, 4, 5, 6, 7, 8] 2 = [1, 3, 4, 5, 6, 7, 8] from rfl]; simp only [Act.put, List.setIfInBounds_toArray, List.set_cons_zero, List.set_cons_succ]
    refine TxtT.pure 3 (by rfl) (by rw [List.getElem?_toArray]; rfl) (by rfl) (by as_aux_lemma => kernel_rfl) (by rfl) ?_; apply Exists.intro; refine ⟨fun w1 hS1 => ?_, ?_⟩; (focus (skip; go_simp; with_reducible rfl))
    rw [show List.erase [1, 3, 4, 5, 6, 7, 8] 3 = [1, 4, 5, 6, 7, 8] from rfl]; simp only [Act.put, List.setIfInBounds_toArray, List.set_cons_zero, List.set_cons_succ]
    refine TxtT.pure 4 (by rfl) (by rw [List.getElem?_toArray]; rfl) (by rfl) (by as_aux_lemma => kernel_rfl) (by rfl) ?_; apply Exists.intro; refine ⟨fun w1 hS1 => ?_, ?_⟩; (focus (skip; go_simp; with_reducible rfl))
    rw [show List.erase [1, 4, 5, 6, 7, 8] 4 = [1, 5, 6, 7, 8] from rfl]; simp only [Act.put, List.setIfInBounds_toArray, List.set_cons_zero, List.set_cons_succ]
    refine TxtT.two 1 7 (by as_aux_lemma => kernel_rfl) (by rw [List.getElem?_toArray]; rfl) (by rw [List.getElem?_toArray]; rfl) (by rfl) (by rfl) (by rfl) (by rfl) (fun v => ∃ A c, v = Value.slice A s.length c) (fun v w' => ∃ AC cC, v = Value.slice AC s.length cC ∧ ClC W1.heap.size s (some (AC, cC)) w' ∧ DuC W1.heap.size L none w' ∧ BxC 28 #[.slice none 0 0, .slice none 0 0, .slice none 0 0] none W1.heap.size w') (fun v => ∃ q, v = Value.pointer (some ⟨q, 0, none⟩)) (fun v w' => ∃ q, v = Value.pointer (some ⟨q, 0, none⟩) ∧ ClC W1.heap.size s none w' ∧ DuC W1.heap.size L none w' ∧ BxC 28 #[.slice none 0 0, .slice none 0 0, .slice none 0 0] (some q) W1.heap.size w') (fun w1 hS1 hJ1 => ?_) (fun w1 hS1 hJ1 => ?_) ?_ ?_
    · refine Eff.call (f := 108) (args := #[.slice Bs s.length cs]) (by go_simp) ((Hcl.out w1 (hs1.below hS1)).mono ?_)
      rintro e w' ⟨A1, c1, rfl, ho, _, _, hb⟩
      exact ⟨_, rfl, hS1.trans (hb.mono hS1.size), ⟨A1, c1, rfl⟩, A1, c1, rfl, (fun A c e => by injection e with e; injection e with e1 e2; subst e1 e2; exact ownsRow_mono ho hS1.size), hJ1.2.1.below hb, hJ1.2.2.below hb⟩
    · exact Eff.value (w' := w1.alloc (.cells #[.slice none 0 0, .slice none 0 0, .slice none 0 0] 28)) (v := .pointer (some ⟨w1.heap.size, 0, none⟩)) (by go_simp) ⟨hS1.trans ((newB w1 _).mono hS1.size), ⟨_, rfl⟩, _, rfl, hJ1.1.below (newB w1 _), hJ1.2.1.below (newB w1 _), BxC.new hS1.size⟩
    ·
      rintro _ ⟨AC, cC, rfl⟩
      rw [show List.erase [1, 5, 6, 7, 8] 1 = [5, 6, 7, 8] from rfl]; simp only [Act.put, List.setIfInBounds_toArray, List.set_cons_zero, List.set_cons_succ]
      refine TxtT.weakJ (J2 := fun w' => ClC W1.heap.size s (some (AC, cC)) w' ∧ DuC W1.heap.size L none w' ∧ BxC 28 #[.slice none 0 0, .slice none 0 0, .slice none 0 0] none W1.heap.size w') (fun w1 h => by obtain ⟨x, y, hq, h⟩ := h; simp only [Value.slice.injEq, true_and] at hq; obtain ⟨hq1, hq2⟩ := hq; subst hq1; subst hq2; exact h) ?_
      refine TxtT.two 5 7 (by as_aux_lemma => kernel_rfl) (by rw [List.getElem?_toArray]; rfl) (by rw [List.getElem?_toArray]; rfl) (by rfl) (by rfl) (by rfl) (by rfl) (fun v => ∃ A c, v = Value.slice A L.length c) (fun v w' => ∃ AD cD, v = Value.slice AD L.length cD ∧ ClC W1.heap.size s (some (AC, cC)) w' ∧ DuC W1.heap.size L (some (AD, cD)) w' ∧ BxC 28 #[.slice none 0 0, .slice none 0 0, .slice none 0 0] none W1.heap.size w') (fun v => ∃ q, v = Value.pointer (some ⟨q, 0, none⟩)) (fun v w' => ∃ q, v = Value.pointer (some ⟨q, 0, none⟩) ∧ ClC W1.heap.size s (some (AC, cC)) w' ∧ DuC W1.heap.size L none w' ∧ BxC 28 #[.slice none 0 0, .slice none 0 0, .slice none 0 0] (some q) W1.heap.size w') (fun w1 hS1 hJ1 => ?_) (fun w1 hS1 hJ1 => ?_) ?_ ?_
      · refine Eff.call (f := 66) (args := #[.agg #[.int .i64 (n : Int), .slice A G.length c], .slice Bs s.length cs, .int .i64 kind]) (by go_simp) ((Hdu.out w1 (hr1.below hS1) (hs1.below hS1) (hT1.below hS1)).mono ?_)
        rintro e w' ⟨A1, c1, xs, rfl, ho, hl, _, hb⟩
        exact ⟨_, rfl, hS1.trans (hb.mono hS1.size), ⟨A1, c1, rfl⟩, A1, c1, rfl, hJ1.1.below hb, (fun A c e => by injection e with e; injection e with e1 e2; subst e1 e2; exact ⟨xs, ownsRow_mono ho hS1.size, hl.mono hS1.size⟩), hJ1.2.2.below hb⟩
      · exact Eff.value (w' := w1.alloc (.cells #[.slice none 0 0, .slice none 0 0, .slice none 0 0] 28)) (v := .pointer (some ⟨w1.heap.size, 0, none⟩)) (by go_simp) ⟨hS1.trans ((newB w1 _).mono hS1.size), ⟨_, rfl⟩, _, rfl, hJ1.1.below (newB w1 _), hJ1.2.1.below (newB w1 _), BxC.new hS1.size⟩
      ·
        rintro _ ⟨AD, cD, rfl⟩
        rw [show List.erase [5, 6, 7, 8] 5 = [6, 7, 8] from rfl]; simp only [Act.put, List.setIfInBounds_toArray, List.set_cons_zero, List.set_cons_succ]
        refine TxtT.weakJ (J2 := fun w' => ClC W1.heap.size s (some (AC, cC)) w' ∧ DuC W1.heap.size L (some (AD, cD)) w' ∧ BxC 28 #[.slice none 0 0, .slice none 0 0, .slice none 0 0] none W1.heap.size w') (fun w1 h => by obtain ⟨x, y, hq, h⟩ := h; simp only [Value.slice.injEq, true_and] at hq; obtain ⟨hq1, hq2⟩ := hq; subst hq1; subst hq2; exact h) ?_
        refine TxtT.pure 6 (by rfl) (by rw [List.getElem?_toArray]; rfl) (by rfl) (by as_aux_lemma => kernel_rfl) (by rfl) ?_; apply Exists.intro; refine ⟨fun w1 hS1 => ?_, ?_⟩; (focus (skip; go_simp; with_reducible rfl))
        rw [show List.erase [6, 7, 8] 6 = [7, 8] from rfl]; simp only [Act.put, List.setIfInBounds_toArray, List.set_cons_zero, List.set_cons_succ]
        refine TxtT.one 7 (by as_aux_lemma => kernel_rfl) (by rw [List.getElem?_toArray]; rfl) (by rfl) (by rfl) (fun v => ∃ q, v = Value.pointer (some ⟨q, 0, none⟩)) (fun v w' => ∃ q, v = Value.pointer (some ⟨q, 0, none⟩) ∧ ClC W1.heap.size s (some (AC, cC)) w' ∧ DuC W1.heap.size L (some (AD, cD)) w' ∧ BxC 28 #[.slice none 0 0, .slice none 0 0, .slice none 0 0] (some q) W1.heap.size w') (fun w1 hS1 hJ1 => ?_) ?_
        · exact Eff.value (w' := w1.alloc (.cells #[.slice none 0 0, .slice none 0 0, .slice none 0 0] 28)) (v := .pointer (some ⟨w1.heap.size, 0, none⟩)) (by go_simp) ⟨hS1.trans ((newB w1 _).mono hS1.size), ⟨_, rfl⟩, _, rfl, hJ1.1.below (newB w1 _), hJ1.2.1.below (newB w1 _), BxC.new hS1.size⟩
        rintro _ ⟨q, rfl⟩
        rw [show List.erase [7, 8] 7 = [8] from rfl]; simp only [Act.put, List.setIfInBounds_toArray, List.set_cons_zero, List.set_cons_succ]
        refine TxtT.weakJ (J2 := fun w' => ClC W1.heap.size s (some (AC, cC)) w' ∧ DuC W1.heap.size L (some (AD, cD)) w' ∧ BxC 28 #[.slice none 0 0, .slice none 0 0, .slice none 0 0] (some q) W1.heap.size w') (fun w1 h => by obtain ⟨q', hq, h⟩ := h; injection hq with hq; injection hq with hq; injection hq with hq _ _; subst hq; exact h) ?_
        refine TxtT.one 8 (by as_aux_lemma => kernel_rfl) (by rw [List.getElem?_toArray]; rfl) (by rfl) (by rfl) (fun v => v = undef) (fun _ w' => StJ W1.heap.size s L AC cC AD cD q w') (fun w1 hS1 hJ1 => ?_) ?_
        · obtain ⟨hq, hk4⟩ := hJ1.2.2 q rfl
          obtain ⟨xs, ho, hl⟩ := hJ1.2.1 AD cD rfl
          have hc := hJ1.1 AC cC rfl
          have z0 := hk4.frozen 0; have z1 := hk4.frozen 1; have z2 := hk4.frozen 2
          have y0 : w1.cell? ⟨q, 0, none⟩ = some (.slice none 0 0) := hk4.cell 0; have y1 : w1.cell? ⟨q, 1, none⟩ = some (.slice none 0 0) := hk4.cell 1; have y2 : w1.cell? ⟨q, 2, none⟩ = some (.slice none 0 0) := hk4.cell 2
          exact Eff.skip (w' := ((w1.setCell ⟨q, 0, none⟩ (.slice AC s.length cC)).setCell ⟨q, 1, none⟩ (.slice none 0 0)).setCell ⟨q, 2, none⟩ (.slice AD L.length cD)) (by go_simp) ⟨((hS1.setCell (p := ⟨q, 0, none⟩) hq _).setCell (p := ⟨q, 1, none⟩) hq _).setCell (p := ⟨q, 2, none⟩) hq _, rfl, stj_made hq hk4 hc ho hl⟩
        rintro _ rfl
        rw [show List.erase [8] 8 = [] from rfl]; simp only [Act.put]
        refine ⟨rfl, fun w1 hS1 hJ1 => ?_⟩
        go_wp2_with fail
        go_meet
        exact ⟨q, AC, cC, AD, cD, rfl, hJ1, hS1⟩
      ·
        rintro _ ⟨q, rfl⟩
        rw [show List.erase [5, 6, 7, 8] 7 = [5, 6, 8] from rfl]; simp only [Act.put, List.setIfInBounds_toArray, List.set_cons_zero, List.set_cons_succ]
        refine TxtT.weakJ (J2 := fun w' => ClC W1.heap.size s (some (AC, cC)) w' ∧ DuC W1.heap.size L none w' ∧ BxC 28 #[.slice none 0 0, .slice none 0 0, .slice none 0 0] (some q) W1.heap.size w') (fun w1 h => by obtain ⟨q', hq, h⟩ := h; injection hq with hq; injection hq with hq; injection hq with hq _ _; subst hq; exact h) ?_
        refine TxtT.one 5 (by as_aux_lemma => kernel_rfl) (by rw [List.getElem?_toArray]; rfl) (by rfl) (by rfl) (fun v => ∃ A c, v = Value.slice A L.length c) (fun v w' => ∃ AD cD, v = Value.slice AD L.length cD ∧ ClC W1.heap.size s (some (AC, cC)) w' ∧ DuC W1.heap.size L (some (AD, cD)) w' ∧ BxC 28 #[.slice none 0 0, .slice none 0 0, .slice none 0 0] (some q) W1.heap.size w') (fun w1 hS1 hJ1 => ?_) ?_
        · refine Eff.call (f := 66) (args := #[.agg #[.int .i64 (n : Int), .slice A G.length c], .slice Bs s.length cs, .int .i64 kind]) (by go_simp) ((Hdu.out w1 (hr1.below hS1) (hs1.below hS1) (hT1.below hS1)).mono ?_)
          rintro e w' ⟨A1, c1, xs, rfl, ho, hl, _, hb⟩
          exact ⟨_, rfl, hS1.trans (hb.mono hS1.size), ⟨A1, c1, rfl⟩, A1, c1, rfl, hJ1.1.below hb, (fun A c e => by injection e with e; injection e with e1 e2; subst e1 e2; exact ⟨xs, ownsRow_mono ho hS1.size, hl.mono hS1.size⟩), hJ1.2.2.below hb⟩
        rintro _ ⟨AD, cD, rfl⟩
        rw [show List.erase [5, 6, 8] 5 = [6, 8] from rfl]; simp only [Act.put, List.setIfInBounds_toArray, List.set_cons_zero, List.set_cons_succ]
        refine TxtT.weakJ (J2 := fun w' => ClC W1.heap.size s (some (AC, cC)) w' ∧ DuC W1.heap.size L (some (AD, cD)) w' ∧ BxC 28 #[.slice none 0 0, .slice none 0 0, .slice none 0 0] (some q) W1.heap.size w') (fun w1 h => by obtain ⟨x, y, hq, h⟩ := h; simp only [Value.slice.injEq, true_and] at hq; obtain ⟨hq1, hq2⟩ := hq; subst hq1; subst hq2; exact h) ?_
        refine TxtT.pure 6 (by rfl) (by rw [List.getElem?_toArray]; rfl) (by rfl) (by as_aux_lemma => kernel_rfl) (by rfl) ?_; apply Exists.intro; refine ⟨fun w1 hS1 => ?_, ?_⟩; (focus (skip; go_simp; with_reducible rfl))
        rw [show List.erase [6, 8] 6 = [8] from rfl]; simp only [Act.put, List.setIfInBounds_toArray, List.set_cons_zero, List.set_cons_succ]
        refine TxtT.one 8 (by as_aux_lemma => kernel_rfl) (by rw [List.getElem?_toArray]; rfl) (by rfl) (by rfl) (fun v => v = undef) (fun _ w' => StJ W1.heap.size s L AC cC AD cD q w') (fun w1 hS1 hJ1 => ?_) ?_
        · obtain ⟨hq, hk4⟩ := hJ1.2.2 q rfl
          obtain ⟨xs, ho, hl⟩ := hJ1.2.1 AD cD rfl
          have hc := hJ1.1 AC cC rfl
          have z0 := hk4.frozen 0; have z1 := hk4.frozen 1; have z2 := hk4.frozen 2
          have y0 : w1.cell? ⟨q, 0, none⟩ = some (.slice none 0 0) := hk4.cell 0; have y1 : w1.cell? ⟨q, 1, none⟩ = some (.slice none 0 0) := hk4.cell 1; have y2 : w1.cell? ⟨q, 2, none⟩ = some (.slice none 0 0) := hk4.cell 2
          exact Eff.skip (w' := ((w1.setCell ⟨q, 0, none⟩ (.slice AC s.length cC)).setCell ⟨q, 1, none⟩ (.slice none 0 0)).setCell ⟨q, 2, none⟩ (.slice AD L.length cD)) (by go_simp) ⟨((hS1.setCell (p := ⟨q, 0, none⟩) hq _).setCell (p := ⟨q, 1, none⟩) hq _).setCell (p := ⟨q, 2, none⟩) hq _, rfl, stj_made hq hk4 hc ho hl⟩
        rintro _ rfl
        rw [show List.erase [8] 8 = [] from rfl]; simp only [Act.put]
        refine ⟨rfl, fun w1 hS1 hJ1 => ?_⟩
        go_wp2_with fail
        go_meet
        exact ⟨q, AC, cC, AD, cD, rfl, hJ1, hS1⟩
    ·
      rintro _ ⟨q, rfl⟩
      rw [show List.erase [1, 5, 6, 7, 8] 7 = [1, 5, 6, 8] from rfl]; simp only [Act.put, List.setIfInBounds_toArray, List.set_cons_zero, List.set_cons_succ]
      refine TxtT.weakJ (J2 := fun w' => ClC W1.heap.size s none w' ∧ DuC W1.heap.size L none w' ∧ BxC 28 #[.slice none 0 0, .slice none 0 0, .slice none 0 0] (some q) W1.heap.size w') (fun w1 h => by obtain ⟨q', hq, h⟩ := h; injection hq with hq; injection hq with hq; injection hq with hq _ _; subst hq; exact h) ?_
      refine TxtT.one 1 (by as_aux_lemma => kernel_rfl) (by rw [List.getElem?_toArray]; rfl) (by rfl) (by rfl) (fun v => ∃ A c, v = Value.slice A s.length c) (fun v w' => ∃ AC cC, v = Value.slice AC s.length cC ∧ ClC W1.heap.size s (some (AC, cC)) w' ∧ DuC W1.heap.size L none w' ∧ BxC 28 #[.slice none 0 0, .slice none 0 0, .slice none 0 0] (some q) W1.heap.size w') (fun w1 hS1 hJ1 => ?_) ?_
      · refine Eff.call (f := 108) (args := #[.slice Bs s.length cs]) (by go_simp) ((Hcl.out w1 (hs1.below hS1)).mono ?_)
        rintro e w' ⟨A1, c1, rfl, ho, _, _, hb⟩
        exact ⟨_, rfl, hS1.trans (hb.mono hS1.size), ⟨A1, c1, rfl⟩, A1, c1, rfl, (fun A c e => by injection e with e; injection e with e1 e2; subst e1 e2; exact ownsRow_mono ho hS1.size), hJ1.2.1.below hb, hJ1.2.2.below hb⟩
      rintro _ ⟨AC, cC, rfl⟩
      rw [show List.erase [1, 5, 6, 8] 1 = [5, 6, 8] from rfl]; simp only [Act.put, List.setIfInBounds_toArray, List.set_cons_zero, List.set_cons_succ]
      refine TxtT.weakJ (J2 := fun w' => ClC W1.heap.size s (some (AC, cC)) w' ∧ DuC W1.heap.size L none w' ∧ BxC 28 #[.slice none 0 0, .slice none 0 0, .slice none 0 0] (some q) W1.heap.size w') (fun w1 h => by obtain ⟨x, y, hq, h⟩ := h; simp only [Value.slice.injEq, true_and] at hq; obtain ⟨hq1, hq2⟩ := hq; subst hq1; subst hq2; exact h) ?_
      refine TxtT.one 5 (by as_aux_lemma => kernel_rfl) (by rw [List.getElem?_toArray]; rfl) (by rfl) (by rfl) (fun v => ∃ A c, v = Value.slice A L.length c) (fun v w' => ∃ AD cD, v = Value.slice AD L.length cD ∧ ClC W1.heap.size s (some (AC, cC)) w' ∧ DuC W1.heap.size L (some (AD, cD)) w' ∧ BxC 28 #[.slice none 0 0, .slice none 0 0, .slice none 0 0] (some q) W1.heap.size w') (fun w1 hS1 hJ1 => ?_) ?_
      · refine Eff.call (f := 66) (args := #[.agg #[.int .i64 (n : Int), .slice A G.length c], .slice Bs s.length cs, .int .i64 kind]) (by go_simp) ((Hdu.out w1 (hr1.below hS1) (hs1.below hS1) (hT1.below hS1)).mono ?_)
        rintro e w' ⟨A1, c1, xs, rfl, ho, hl, _, hb⟩
        exact ⟨_, rfl, hS1.trans (hb.mono hS1.size), ⟨A1, c1, rfl⟩, A1, c1, rfl, hJ1.1.below hb, (fun A c e => by injection e with e; injection e with e1 e2; subst e1 e2; exact ⟨xs, ownsRow_mono ho hS1.size, hl.mono hS1.size⟩), hJ1.2.2.below hb⟩
      rintro _ ⟨AD, cD, rfl⟩
      rw [show List.erase [5, 6, 8] 5 = [6, 8] from rfl]; simp only [Act.put, List.setIfInBounds_toArray, List.set_cons_zero, List.set_cons_succ]
      refine TxtT.weakJ (J2 := fun w' => ClC W1.heap.size s (some (AC, cC)) w' ∧ DuC W1.heap.size L (some (AD, cD)) w' ∧ BxC 28 #[.slice none 0 0, .slice none 0 0, .slice none 0 0] (some q) W1.heap.size w') (fun w1 h => by obtain ⟨x, y, hq, h⟩ := h; simp only [Value.slice.injEq, true_and] at hq; obtain ⟨hq1, hq2⟩ := hq; subst hq1; subst hq2; exact h) ?_
      refine TxtT.pure 6 (by rfl) (by rw [List.getElem?_toArray]; rfl) (by rfl) (by as_aux_lemma => kernel_rfl) (by rfl) ?_; apply Exists.intro; refine ⟨fun w1 hS1 => ?_, ?_⟩; (focus (skip; go_simp; with_reducible rfl))
      rw [show List.erase [6, 8] 6 = [8] from rfl]; simp only [Act.put, List.setIfInBounds_toArray, List.set_cons_zero, List.set_cons_succ]
      refine TxtT.one 8 (by as_aux_lemma => kernel_rfl) (by rw [List.getElem?_toArray]; rfl) (by rfl) (by rfl) (fun v => v = undef) (fun _ w' => StJ W1.heap.size s L AC cC AD cD q w') (fun w1 hS1 hJ1 => ?_) ?_
      · obtain ⟨hq, hk4⟩ := hJ1.2.2 q rfl
        obtain ⟨xs, ho, hl⟩ := hJ1.2.1 AD cD rfl
        have hc := hJ1.1 AC cC rfl
        have z0 := hk4.frozen 0; have z1 := hk4.frozen 1; have z2 := hk4.frozen 2
        have y0 : w1.cell? ⟨q, 0, none⟩ = some (.slice none 0 0) := hk4.cell 0; have y1 : w1.cell? ⟨q, 1, none⟩ = some (.slice none 0 0) := hk4.cell 1; have y2 : w1.cell? ⟨q, 2, none⟩ = some (.slice none 0 0) := hk4.cell 2
        exact Eff.skip (w' := ((w1.setCell ⟨q, 0, none⟩ (.slice AC s.length cC)).setCell ⟨q, 1, none⟩ (.slice none 0 0)).setCell ⟨q, 2, none⟩ (.slice AD L.length cD)) (by go_simp) ⟨((hS1.setCell (p := ⟨q, 0, none⟩) hq _).setCell (p := ⟨q, 1, none⟩) hq _).setCell (p := ⟨q, 2, none⟩) hq _, rfl, stj_made hq hk4 hc ho hl⟩
      rintro _ rfl
      rw [show List.erase [8] 8 = [] from rfl]; simp only [Act.put]
      refine ⟨rfl, fun w1 hS1 hJ1 => ?_⟩
      go_wp2_with fail
      go_meet
      exact ⟨q, AC, cC, AD, cD, rfl, hJ1, hS1⟩
  case rest =>
  obtain ⟨q, AC, cC, AD, cD, rfl, hst, hbc⟩ := hcut
  have hmu := u64_of hn Hm.out
  obtain ⟨xs, hos, hol⟩ := hst.du
  have kq := hst.box
  have hcl := hst.cl
  have hq1 := hst.hq
  have Hos := Lib.hid hos; have Hol := Lib.hid hol; have Hcl := Lib.hid hcl
  have hqlt := kq.lt
  have hbw := endB hb01 hbc
  obtain ⟨n0, n1, n2, _, _⟩ := kq.threeE
  clear hos hol hcl d0 d1 hr1 hs1 hT1
  go_wp2_with fail
  clear n0 n1 n2
  go_loopw [25] (fun i wr => ∃ (k : Nat) (v : Value), k ≤ L.length ∧ i = .int .i64 k ∧ Blk wr q 28 #[.slice AC s.length cC, v, .slice AD L.length cD] ∧ OwnP wr wc.heap.size v ((L.take k).map (chgP (maskN s) s)) ∧ wc.grownBy wr (some q)) (fun i _ => L.length - (intOf i).toNat)
  case atStart => exact ⟨0, _, Nat.zero_le _, rfl, kq, OwnP.nil _ _, grownBy_refl _ _⟩
  case round =>
    obtain ⟨k, v, hk, rfl, kb, hown, hg⟩ := hrel
    have Hown := Lib.hid hown
    clear hown
    by_cases hlt : k < L.length
    case pos =>
      have hosr := World.ownsRow.kept Hos.out hg (.inr (own_apart Hos.out kq (by decide)))
      have holr := Hol.out.apartB kq (by decide) hg
      obtain ⟨A9, c9, e9, hrt, _⟩ := OwnTS.forms hosr holr
      simp only [Value.slice.injEq, true_and] at e9
      obtain ⟨e9a, e9b⟩ := e9
      subst e9a
      subst e9b
      have hbr := hbw.trans (below_of_grownBy hg (Nat.le_trans hb01.size hq1) hbw.size)
      obtain ⟨b, o, A', c', hA, hcell, hrp⟩ := hrt k hlt
      subst hA
      obtain ⟨hs0, hl0, hokp⟩ := Hok.out L[k] (List.getElem_mem hlt)
      have hstep : (L.take (k + 1)).map (chgP (maskN s) s) = (L.take k).map (chgP (maskN s) s) ++ [chgP (maskN s) s L[k]] := by rw [List.take_succ_eq_append_getElem hlt, List.map_append]; rfl
      obtain ⟨l, hll⟩ : ∃ l, L[k] = l := ⟨_, rfl⟩
      rw [hll] at hcell hrp hl0 hokp hstep
      have Hstep := Lib.hid hstep
      clear hll hosr holr hrt hstep
      have hl1 : 0 < l.length := List.length_pos_iff.2 hl0
      obtain ⟨b2, o2, rfl, hc, hd⟩ := hrp.at_ hl1
      have hp := hokp l[0] (List.getElem_mem hl1)
      unfold okP at hp
      obtain ⟨x, hx⟩ : ∃ x : Nat, l[0].1 = (x : Int) := ⟨l[0].1.toNat, by omega⟩
      obtain ⟨y, hy⟩ : ∃ y : Nat, l[0].2 = (y : Int) := ⟨l[0].2.toNat, by omega⟩
      have hx64 : x < 64 := by omega
      have hy64 : y < 64 := by omega
      rw [hx] at hc; rw [hy] at hd
      simp only [Nat.zero_mul, Nat.add_zero] at hc hd
      have hhd : l.headD (0, 0) = ((x : Int), (y : Int)) := by
        cases l with
        | nil => cases hl1
        | cons p r => exact Prod.ext hx hy
      have Hhd := Lib.hid hhd
      have hh1 := netHas_any (maskN s) x hmu hx64
      have hh2 := netHas_any (maskN s) y hmu hy64
      have Hh1 := Lib.hid hh1; have Hh2 := Lib.hid hh2
      have hln : l.length ≤ 1000000 ∨ True := .inr trivial
      clear hh1 hh2 hhd hx hy hp hx64 hy64 hokp hl0 hrp hln
      obtain ⟨W4, hW4, kp, hb4, hs4⟩ : ∃ W4, wr.alloc (.cells #[.int .i64 (x : Int), .int .i64 (y : Int)] 42) = W4 ∧ Blk W4 wr.heap.size 42 #[.int .i64 (x : Int), .int .i64 (y : Int)] ∧ Below wr.heap.size wr W4 ∧ W4.heap.size = wr.heap.size + 1 := ⟨_, rfl, Blk.new _ _ _, newB _ _, by simp⟩
      obtain ⟨e0, e1, _, _⟩ := kp.two
      have hs0l : 0 < s.length := List.length_pos_iff.2 hs0
      obtain ⟨b3, o3, hB, hcs⟩ := (hs.below hbr).at_ hs0l
      subst hB
      obtain ⟨z, hz⟩ : ∃ z, s[0] = z := ⟨_, rfl⟩
      rw [hz, Nat.add_zero] at hcs
      have hhz : s.headD 0 = z := by
        cases s with
        | nil => cases hs0l
        | cons a r => exact hz
      have Hz := Lib.hid hhz
      have hcs4 := (hb4.cell (lt_of_cell hcs)).trans hcs
      have hl6 : ((L.take k).map (chgP (maskN s) s)).length ≤ 1000000 := by rw [List.length_map, List.length_take]; omega
      clear hhz hz hs0
      go_wp2_with fail
      refine (Hh1.out _).mono ?_
      rintro e w' ⟨rfl, rfl⟩
      cases hbx : (maskN s).testBit x
      case false =>
        go_wp2_with fail
        refine (Hh2.out _).mono ?_
        rintro e w' ⟨rfl, rfl⟩
        cases hby : (maskN s).testBit y
        case false =>
          have hch : chgP (maskN s) s l = (z, (y : Int)) := by
            show (if (maskN s).testBit (l.headD (0, 0)).1.toNat && (maskN s).testBit (l.headD (0, 0)).2.toNat then l.headD (0, 0) else (s.headD 0, if (maskN s).testBit (l.headD (0, 0)).2.toNat then (l.headD (0, 0)).1 else (l.headD (0, 0)).2)) = _
            rw [Hhd.out]
            simp only [Int.toNat_natCast, hbx, hby, Hz.out, Bool.and_false, Bool.false_eq_true, if_false]
          have Hch := Lib.hid hch
          clear hch
          obtain ⟨X, hX, kX, hbX, hsX⟩ : ∃ X, (W4.setCell ⟨wr.heap.size, 0, none⟩ (.int .i64 (z))).setCell ⟨wr.heap.size, 1, none⟩ (.int .i64 ((y : Int))) = X ∧ Blk X wr.heap.size 42 #[.int .i64 (z), .int .i64 ((y : Int))] ∧ Below wr.heap.size wr X ∧ X.heap.size = wr.heap.size + 1 := ⟨_, rfl, (kp.set_ 0 _).set_ 1 _, (hb4.setCell (p := ⟨wr.heap.size, 0, none⟩) (Nat.le_refl _) _).setCell (p := ⟨wr.heap.size, 1, none⟩) (Nat.le_refl _) _, by simp [World.setCell]; exact hs4⟩
          have HownX := Lib.hid (ownsRow_below Hown.out hbX : OwnP X wc.heap.size _ _)
          have kbX := kb.below hbX kb.lt
          obtain ⟨g0, g1, g2, _, _⟩ := kbX.threeE
          obtain ⟨p0, p1, _, _⟩ := kX.two
          have hgX := hg.andThen (grownBy_of_below hbX none) (fun j e => by cases e)
          have hDX : wc.heap.size ≤ X.heap.size := hgX.size
          have hlocX : ∀ j, v.ownBlock = some j → wc.heap.size ≤ j := fun j hj => (World.ownsRow.lt HownX.out j hj).1
          have HlocX := Lib.hid hlocX
          clear hlocX
          obtain ⟨pf0, pf1, pf2, pf3⟩ := kp.two
          go_wp2_with (at_builtin; go_loud (refine wpList_appP2 (by rfl) _ _ (by rfl) X wc.heap.size _ _ (z) ((y : Int)) HownX.out (by rfl) (by rfl) (by omega) hl6 hDX ?_); intro v' w5 hown5 hb5 hg5; (obtain ⟨A5, n5, c5, rfl⟩ : ∃ A n c, v' = Value.slice A n c := by (obtain ⟨A, c, h, _⟩ := hown5.form; exact ⟨A, _, c, h⟩)); have kb5 := kbX.append HownX.out hg5 hqlt; (obtain ⟨m0, m1, m2, _, _⟩ := kb5.threeE); have Hown5 := Lib.hid hown5; clear hown5)
          go_roundw
          case rel => exact ⟨k + 1, .slice A5 n5 c5, hlt, by go_num, kb5.set_ 1 (.slice A5 n5 c5), by rw [Hstep.out, Hch.out]; exact ownsRow_setCell_below Hown5.out (a := ⟨q, 1, none⟩) hqlt _, grownBy_trans (hgX.andThen hg5 (fun j hj => .inl (HlocX.out j hj))) (grownBy_setCell w5 q 1 _)⟩
          case measure => simp [intOf]; omega
        case true =>
          have hch : chgP (maskN s) s l = (z, (x : Int)) := by
            show (if (maskN s).testBit (l.headD (0, 0)).1.toNat && (maskN s).testBit (l.headD (0, 0)).2.toNat then l.headD (0, 0) else (s.headD 0, if (maskN s).testBit (l.headD (0, 0)).2.toNat then (l.headD (0, 0)).1 else (l.headD (0, 0)).2)) = _
            rw [Hhd.out]
            simp only [Int.toNat_natCast, hbx, hby, Hz.out, Bool.and_true, Bool.false_eq_true, if_true, if_false]
          have Hch := Lib.hid hch
          clear hch
          obtain ⟨X, hX, kX, hbX, hsX⟩ : ∃ X, (W4.setCell ⟨wr.heap.size, 0, none⟩ (.int .i64 (z))).setCell ⟨wr.heap.size, 1, none⟩ (.int .i64 ((x : Int))) = X ∧ Blk X wr.heap.size 42 #[.int .i64 (z), .int .i64 ((x : Int))] ∧ Below wr.heap.size wr X ∧ X.heap.size = wr.heap.size + 1 := ⟨_, rfl, (kp.set_ 0 _).set_ 1 _, (hb4.setCell (p := ⟨wr.heap.size, 0, none⟩) (Nat.le_refl _) _).setCell (p := ⟨wr.heap.size, 1, none⟩) (Nat.le_refl _) _, by simp [World.setCell]; exact hs4⟩
          have HownX := Lib.hid (ownsRow_below Hown.out hbX : OwnP X wc.heap.size _ _)
          have kbX := kb.below hbX kb.lt
          obtain ⟨g0, g1, g2, _, _⟩ := kbX.threeE
          obtain ⟨p0, p1, _, _⟩ := kX.two
          have hgX := hg.andThen (grownBy_of_below hbX none) (fun j e => by cases e)
          have hDX : wc.heap.size ≤ X.heap.size := hgX.size
          have hlocX : ∀ j, v.ownBlock = some j → wc.heap.size ≤ j := fun j hj => (World.ownsRow.lt HownX.out j hj).1
          have HlocX := Lib.hid hlocX
          clear hlocX
          obtain ⟨pf0, pf1, pf2, pf3⟩ := kp.two
          go_wp2_with (at_builtin; go_loud (refine wpList_appP2 (by rfl) _ _ (by rfl) X wc.heap.size _ _ (z) ((x : Int)) HownX.out (by rfl) (by rfl) (by omega) hl6 hDX ?_); intro v' w5 hown5 hb5 hg5; (obtain ⟨A5, n5, c5, rfl⟩ : ∃ A n c, v' = Value.slice A n c := by (obtain ⟨A, c, h, _⟩ := hown5.form; exact ⟨A, _, c, h⟩)); have kb5 := kbX.append HownX.out hg5 hqlt; (obtain ⟨m0, m1, m2, _, _⟩ := kb5.threeE); have Hown5 := Lib.hid hown5; clear hown5)
          go_roundw
          case rel => exact ⟨k + 1, .slice A5 n5 c5, hlt, by go_num, kb5.set_ 1 (.slice A5 n5 c5), by rw [Hstep.out, Hch.out]; exact ownsRow_setCell_below Hown5.out (a := ⟨q, 1, none⟩) hqlt _, grownBy_trans (hgX.andThen hg5 (fun j hj => .inl (HlocX.out j hj))) (grownBy_setCell w5 q 1 _)⟩
          case measure => simp [intOf]; omega
      case true =>
        go_wp2_with fail
        refine (Hh2.out _).mono ?_
        rintro e w' ⟨rfl, rfl⟩
        cases hby : (maskN s).testBit y
        case true =>
          have hch : chgP (maskN s) s l = ((x : Int), (y : Int)) := by
            show (if (maskN s).testBit (l.headD (0, 0)).1.toNat && (maskN s).testBit (l.headD (0, 0)).2.toNat then l.headD (0, 0) else (s.headD 0, if (maskN s).testBit (l.headD (0, 0)).2.toNat then (l.headD (0, 0)).1 else (l.headD (0, 0)).2)) = _
            rw [Hhd.out]
            simp only [Int.toNat_natCast, hbx, hby, Bool.and_true, if_true]
          have Hch := Lib.hid hch
          clear hch
          obtain ⟨X, hX, kX, hbX, hsX⟩ : ∃ X, W4 = X ∧ Blk X wr.heap.size 42 #[.int .i64 ((x : Int)), .int .i64 ((y : Int))] ∧ Below wr.heap.size wr X ∧ X.heap.size = wr.heap.size + 1 := ⟨_, rfl, kp, hb4, hs4⟩
          have HownX := Lib.hid (ownsRow_below Hown.out hbX : OwnP X wc.heap.size _ _)
          have kbX := kb.below hbX kb.lt
          obtain ⟨g0, g1, g2, _, _⟩ := kbX.threeE
          obtain ⟨p0, p1, _, _⟩ := kX.two
          have hgX := hg.andThen (grownBy_of_below hbX none) (fun j e => by cases e)
          have hDX : wc.heap.size ≤ X.heap.size := hgX.size
          have hlocX : ∀ j, v.ownBlock = some j → wc.heap.size ≤ j := fun j hj => (World.ownsRow.lt HownX.out j hj).1
          have HlocX := Lib.hid hlocX
          clear hlocX
          subst hX
          go_wp2_with (at_builtin; go_loud (refine wpList_appP2 (by rfl) _ _ (by rfl) W4 wc.heap.size _ _ ((x : Int)) ((y : Int)) HownX.out (by rfl) (by rfl) (by omega) hl6 hDX ?_); intro v' w5 hown5 hb5 hg5; (obtain ⟨A5, n5, c5, rfl⟩ : ∃ A n c, v' = Value.slice A n c := by (obtain ⟨A, c, h, _⟩ := hown5.form; exact ⟨A, _, c, h⟩)); have kb5 := kbX.append HownX.out hg5 hqlt; (obtain ⟨m0, m1, m2, _, _⟩ := kb5.threeE); have Hown5 := Lib.hid hown5; clear hown5)
          go_roundw
          case rel => exact ⟨k + 1, .slice A5 n5 c5, hlt, by go_num, kb5.set_ 1 (.slice A5 n5 c5), by rw [Hstep.out, Hch.out]; exact ownsRow_setCell_below Hown5.out (a := ⟨q, 1, none⟩) hqlt _, grownBy_trans (hgX.andThen hg5 (fun j hj => .inl (HlocX.out j hj))) (grownBy_setCell w5 q 1 _)⟩
          case measure => simp [intOf]; omega
        case false =>
          go_wp2_with fail
          refine (Hh2.out _).mono ?_
          rintro e w' ⟨rfl, rfl⟩
          rw [hby]
          have hch : chgP (maskN s) s l = (z, (y : Int)) := by
            show (if (maskN s).testBit (l.headD (0, 0)).1.toNat && (maskN s).testBit (l.headD (0, 0)).2.toNat then l.headD (0, 0) else (s.headD 0, if (maskN s).testBit (l.headD (0, 0)).2.toNat then (l.headD (0, 0)).1 else (l.headD (0, 0)).2)) = _
            rw [Hhd.out]
            simp only [Int.toNat_natCast, hbx, hby, Hz.out, Bool.and_false, Bool.false_eq_true, if_false]
          have Hch := Lib.hid hch
          clear hch
          obtain ⟨X, hX, kX, hbX, hsX⟩ : ∃ X, (W4.setCell ⟨wr.heap.size, 0, none⟩ (.int .i64 (z))).setCell ⟨wr.heap.size, 1, none⟩ (.int .i64 ((y : Int))) = X ∧ Blk X wr.heap.size 42 #[.int .i64 (z), .int .i64 ((y : Int))] ∧ Below wr.heap.size wr X ∧ X.heap.size = wr.heap.size + 1 := ⟨_, rfl, (kp.set_ 0 _).set_ 1 _, (hb4.setCell (p := ⟨wr.heap.size, 0, none⟩) (Nat.le_refl _) _).setCell (p := ⟨wr.heap.size, 1, none⟩) (Nat.le_refl _) _, by simp [World.setCell]; exact hs4⟩
          have HownX := Lib.hid (ownsRow_below Hown.out hbX : OwnP X wc.heap.size _ _)
          have kbX := kb.below hbX kb.lt
          obtain ⟨g0, g1, g2, _, _⟩ := kbX.threeE
          obtain ⟨p0, p1, _, _⟩ := kX.two
          have hgX := hg.andThen (grownBy_of_below hbX none) (fun j e => by cases e)
          have hDX : wc.heap.size ≤ X.heap.size := hgX.size
          have hlocX : ∀ j, v.ownBlock = some j → wc.heap.size ≤ j := fun j hj => (World.ownsRow.lt HownX.out j hj).1
          have HlocX := Lib.hid hlocX
          clear hlocX
          obtain ⟨pf0, pf1, pf2, pf3⟩ := kp.two
          go_wp2_with (at_builtin; go_loud (refine wpList_appP2 (by rfl) _ _ (by rfl) X wc.heap.size _ _ (z) ((y : Int)) HownX.out (by rfl) (by rfl) (by omega) hl6 hDX ?_); intro v' w5 hown5 hb5 hg5; (obtain ⟨A5, n5, c5, rfl⟩ : ∃ A n c, v' = Value.slice A n c := by (obtain ⟨A, c, h, _⟩ := hown5.form; exact ⟨A, _, c, h⟩)); have kb5 := kbX.append HownX.out hg5 hqlt; (obtain ⟨m0, m1, m2, _, _⟩ := kb5.threeE); have Hown5 := Lib.hid hown5; clear hown5)
          go_roundw
          case rel => exact ⟨k + 1, .slice A5 n5 c5, hlt, by go_num, kb5.set_ 1 (.slice A5 n5 c5), by rw [Hstep.out, Hch.out]; exact ownsRow_setCell_below Hown5.out (a := ⟨q, 1, none⟩) hqlt _, grownBy_trans (hgX.andThen hg5 (fun j hj => .inl (HlocX.out j hj))) (grownBy_setCell w5 q 1 _)⟩
          case measure => simp [intOf]; omega
    case neg =>
    obtain rfl : k = L.length := by omega
    have hown := Hown.out
    rw [List.take_length] at hown
    obtain ⟨C, hC⟩ : ∃ C, L.map (chgP (maskN s) s) = C := ⟨_, rfl⟩
    rw [hC] at hown
    have HC := Lib.hid hC
    clear hC
    obtain ⟨AH, cH, rfl, _, _⟩ := hown.form
    have hbr := hbw.trans (below_of_grownBy hg (Nat.le_trans hb01.size hq1) hbw.size)
    have kE := (k1.below hbc k1.lt).grown hg (by have := k1.lt; simp; omega)
    rw [hs0] at kE
    obtain ⟨f0, f1, f2, _, _⟩ := kb.threeE
    have z0 := kE.frozen 0; have z1 := kE.frozen 1; have z2 := kE.frozen 2
    have y0 : wr.cell? ⟨w.heap.size + 1, 0, none⟩ = some (.slice none 0 0) := kE.cell 0
    have y1 : wr.cell? ⟨w.heap.size + 1, 1, none⟩ = some (.slice none 0 0) := kE.cell 1
    have y2 : wr.cell? ⟨w.heap.size + 1, 2, none⟩ = some (.slice none 0 0) := kE.cell 2
    have kF := ((kE.set_ 0 (.slice AC s.length cC)).set_ 1 (.slice AH C.length cH)).set_ 2 (.slice AD L.length cD)
    obtain ⟨W9, hW9⟩ : ∃ W9, ((wr.setCell ⟨w.heap.size + 1, 0, none⟩ (.slice AC s.length cC)).setCell ⟨w.heap.size + 1, 1, none⟩ (.slice AH C.length cH)).setCell ⟨w.heap.size + 1, 2, none⟩ (.slice AD L.length cD) = W9 := ⟨_, rfl⟩
    have hg9 : wr.grownBy W9 (some (w.heap.size + 1)) := by rw [← hW9]; exact grownBy_trans (grownBy_trans (grownBy_setCell wr _ 0 _) (grownBy_setCell _ _ 1 _)) (grownBy_setCell _ _ 2 _)
    have hb9 := hbr.trans (below_of_grownBy hg9 (Nat.le_succ _) hbr.size)
    rw [hW9] at kF
    have hc9 := World.ownsRow.kept (World.ownsRow.kept Hcl.out hg (.inr (own_apart Hcl.out kq (by decide)))) hg9 (.inr (own_apart (World.ownsRow.kept Hcl.out hg (.inr (own_apart Hcl.out kq (by decide)))) kE (by decide)))
    have hosr := World.ownsRow.kept Hos.out hg (.inr (own_apart Hos.out kq (by decide)))
    have holr := Hol.out.apartB kq (by decide) hg
    have hos9 := World.ownsRow.kept hosr hg9 (.inr (own_apart hosr kE (by decide)))
    have hol9 := holr.apartB kE (by decide) hg9
    have hown9 := World.ownsRow.kept hown hg9 (.inr (own_apart hown kE (by decide)))
    have q1 : OwnI W9 w.heap.size (.slice AC s.length cC) s := ownsRow_mono hc9 hb01.size
    have q2 : OwnP W9 w.heap.size (.slice AH C.length cH) C := ownsRow_mono hown9 hbw.size
    have q3 : OwnTS W9 w.heap.size (.slice AD L.length cD) xs := ownsRow_mono hos9 hb01.size
    have q4 : OwnTL W9 w.heap.size xs L := hol9.mono hb01.size
    have e0 : W9.cell? ⟨w.heap.size + 1, 0, none⟩ = some (.slice AC s.length cC) := kF.cell 0
    have e1 : W9.cell? ⟨w.heap.size + 1, 1, none⟩ = some (.slice AH C.length cH) := kF.cell 1
    have e2 : W9.cell? ⟨w.heap.size + 1, 2, none⟩ = some (.slice AD L.length cD) := kF.cell 2
    rw [← hW9] at e0 e1 e2
    have H9 := Lib.hid (And.intro q1 (And.intro q2 (And.intro q3 (And.intro q4 hb9))))
    rw [← hW9] at H9
    clear q1 q2 q3 q4 hb9 hc9 hosr holr hos9 hol9 hown9 kF hg9 hW9 hown kE
    go_wp2_with fail
    refine bodyPost_ret (v := .agg #[.slice AC s.length cC, .slice AH C.length cH, .slice AD L.length cD]) (by simp only [results, Tryd.results61]; simp [go_sem, e0, e1, e2]) rfl ?_
    have hCe : strC n G s kind = C := by unfold strC; rw [HL.out]; exact HC.out
    rw [hCe, HL.out]
    exact ⟨AC, cC, AH, cH, AD, cD, xs, rfl, H9.out.1, H9.out.2.1, H9.out.2.2.1, H9.out.2.2.2.1, H9.out.2.2.2.2⟩
end Go.Proofs.YtncimnfhfomddaaDoor
