/- ref10.Components. -/
import Derived.Test.YtkflanjlnbdkmaaDoorRr10
import Derived.Test.YtkflanjlnbdkmaaDoorCmc
import Derived.Test.YtkflanjlnbdkmaaDoorRef10
import Derived.Test.YtkflanjlnbdkmaaDoorCpl
import Derived.Test.YtkflanjlnbdkmaaDoorCin
namespace Go.Proofs.YtkflanjlnbdkmaaDoor
open Go.ChangeShapes Go.WideShapes Go.ChangeAt Go.RowKit

theorem info_bools : (Tryd.prog.info? 85).map (fun i => (i.zero, i.size, i.bytes)) = some (some (.slice none 0 0), 1, 24) := by kernel_rfl
/-- the slice v, made by the call, holds the rows -/
def OwnBB (w : World) (base : Nat) (v : Value) (xs : List Value) : Prop := w.ownsRow base 85 1 v xs.length xs
theorem OwnBB.nil (w : World) (base : Nat) : OwnBB w base (.slice none 0 0) [] := World.ownsRow_nil w base _ _
/-- 'out = append(out, set)' for a slice of slices of truth values -/
theorem wpList_appBB {ops : Array Oper} {rest : List Oper} {o : Oper} {a : Act} {Q : Exit → Act → World → Prop} (hgd : o.guard = none) (s x : Operand)
    (ho : o.op = .call { callee := .builtin .append, args := #[s, x], argTypes := #[84, 84] })
    (X : World) (base : Nat) (v : Value) (xs : List Value) (A : Option Addr) (n c : Nat) (hown : OwnBB X base v xs) (hs : a.eval s = v) (hx : a.eval x = .slice (some ⟨X.heap.size, 0, none⟩) 1 1)
    (hlen : xs.length ≤ 1000000) (hbase : base ≤ X.heap.size)
    (h : ∀ v' w', OwnBB w' base v' (xs ++ [.slice A n c]) → Below base X w' → X.grownBy w' v.ownBlock → wpList Tryd.prog ops Q rest (a.put o.dst v') w') :
    wpList Tryd.prog ops Q (o :: rest) a (X.alloc (.cells #[.slice A n c] 85)) := by
  obtain ⟨i0, hi, hz0, hz1, hz2⟩ := info_parts info_bools
  refine wpList_append_own _ hgd s x 84 ho base 85 i0 _ 1 24 Tryd.underlying84 hi hz0 hz1 hz2 rfl (by decide) v xs.length _ hs (World.ownsRow.alloc hown _) ⟨X.heap.size, 0, none⟩ 1 1 [.slice A n c] hx rfl (new_cell _ _ _)
    (by intro u hu; simp at hu; subst hu; rfl) (by unfold maxLen; omega) (by omega) (by simp; omega) ?_
  intro v' w1 hown' hgrow _
  refine h v' w1 ?_ ?_ ?_
  · unfold OwnBB; rw [List.length_append]; exact hown'
  · exact ((Below.refl base X).alloc hbase _).grown hgrow (by simp; omega) (fun k hk => ((World.ownsRow.alloc hown (.cells #[.slice A n c] 85)).lt k hk).1)
  · exact ⟨hgrow.os, hgrow.tape, hgrow.output, Nat.le_trans (by simp) hgrow.size, fun k hk hne => (hgrow.block k (by simp; omega) hne).trans (Below.heap_alloc _ _ _ hk)⟩

theorem OwnBB.form {w : World} {b : Nat} {v : Value} {xs : List Value} (h : OwnBB w b v xs) : ∃ A c, v = .slice A xs.length c := by
  rcases h.2 with ⟨e, hn⟩ | ⟨g, cap, cur, e, _⟩
  · exact ⟨none, 0, by rw [e, hn]⟩
  · exact ⟨_, cap, e⟩
/-- row j of the table tells what j reaches -/
structure ReT (n : Nat) (l : List (Int × Int)) (w : World) (b : Nat) (v : Value) (xs : List Value) : Prop where
  own : OwnBB w b v xs
  rows : ∀ j (hj : j < xs.length), ∃ g, xs[j] = .slice (some ⟨g, 0, none⟩) n n ∧ b ≤ g ∧ RowB w g n (rchB n l j)
theorem ReT.below {n : Nat} {l : List (Int × Int)} {w w' : World} {b : Nat} {v : Value} {xs : List Value} (h : ReT n l w b v xs) (hb : Below w.heap.size w w') : ReT n l w' b v xs :=
  ⟨ownsRow_below h.own hb, fun j hj => by obtain ⟨g, e, h1, h2⟩ := h.rows j hj; exact ⟨g, e, h1, h2.below hb⟩⟩
/-- the table is read -/
theorem ReT.at_ {n : Nat} {l : List (Int × Int)} {w : World} {b : Nat} {A : Option Addr} {m c : Nat} {xs : List Value} (h : ReT n l w b (.slice A m c) xs) {j : Nat} (hj : j < xs.length) : ∃ gR g, A = some ⟨gR, 0, none⟩ ∧ w.cell? ⟨gR, j, none⟩ = some (.slice (some ⟨g, 0, none⟩) n n) ∧ b ≤ gR ∧ b ≤ g ∧ RowB w g n (rchB n l j) := by
  obtain ⟨g, e, h1, h2⟩ := h.rows j hj
  have hown := h.own
  rcases h.own.2 with ⟨e2, hn⟩ | ⟨gR, cap, cur, e2, hg, r⟩
  · omega
  · injection e2 with e3 _ _
    have c0 := World.ownsRow.cells (g := gR) hown (by rw [e3]; rfl) j (.slice (some ⟨g, 0, none⟩) n n) (by rw [List.getElem?_eq_getElem hj, e])
    have ha : (⟨gR, 0, none⟩ : Addr).add j = ⟨gR, 0 + j, none⟩ := by unfold Addr.add; split <;> simp_all
    rw [ha, Nat.zero_add] at c0
    exact ⟨gR, g, e3, c0, hg, h1, h2⟩
/-- a row that j reaches joins the table -/
theorem ReT.snoc {n : Nat} {l : List (Int × Int)} {w' : World} {b g : Nat} {v' : Value} {xs : List Value} (ho : OwnBB w' b v' (xs ++ [.slice (some ⟨g, 0, none⟩) n n])) (hk : ∀ j (hj : j < xs.length), ∃ g, xs[j] = .slice (some ⟨g, 0, none⟩) n n ∧ b ≤ g ∧ RowB w' g n (rchB n l j)) (hb : b ≤ g) (hr : RowB w' g n (rchB n l xs.length)) : ReT n l w' b v' (xs ++ [.slice (some ⟨g, 0, none⟩) n n]) :=
  ⟨ho, fun j hj => by
    rw [List.length_append, List.length_singleton] at hj
    by_cases e : j < xs.length
    · rw [List.getElem_append_left e]; exact hk j e
    · obtain rfl : j = xs.length := by omega
      exact ⟨g, by simp, hb, hr⟩⟩
theorem OwnBB.apart {w : World} {b g n : Nat} {v : Value} {xs : List Value} {f : Nat → Bool} (h : OwnBB w b v xs) (hr : RowB w g n f) : some g ≠ v.ownBlock := by
  rcases h.2 with ⟨e, _⟩ | ⟨g', cap, cur, e, _, hg, _⟩
  · rw [e]; simp [Value.ownBlock]
  · intro h
    rw [e] at h
    simp only [Value.ownBlock, Option.some.injEq] at h
    subst h
    obtain ⟨cells, h1, h2⟩ := hr
    rw [hg] at h1
    simp at h1
/-- 'reach = append(reach, reached(g, i))' -/
theorem ReT.app {n : Nat} {l : List (Int × Int)} {w w1 w' : World} {b g : Nat} {v v' : Value} {xs : List Value} (h : ReT n l w b v xs) (hb1 : Below w.heap.size w w1) (hr : RowB w1 g n (rchB n l xs.length)) (hg : b ≤ g) (ho : OwnBB w' b v' (xs ++ [.slice (some ⟨g, 0, none⟩) n n])) (hgr : w1.grownBy w' v.ownBlock) : ReT n l w' b v' (xs ++ [.slice (some ⟨g, 0, none⟩) n n]) := by
  have h1 := h.below hb1
  refine ReT.snoc ho (fun j hj => ?_) hg (rowIs_grown hr hgr (h1.own.apart hr))
  obtain ⟨g2, e, h2, h3⟩ := h1.rows j hj
  exact ⟨g2, e, h2, rowIs_grown h3 hgr (h1.own.apart h3)⟩

/-- whether node i is free, as far as node k -/
def freP (n : Nat) (l : List (Int × Int)) (f : Nat → Bool) (i k : Nat) : Bool := !f i && (List.range k).all fun j => f j || !rchB n l j i || rchB n l i j
theorem freP_succ (n : Nat) (l : List (Int × Int)) (f : Nat → Bool) (i k : Nat) : freP n l f i (k + 1) = (freP n l f i k && (f k || !rchB n l k i || rchB n l i k)) := by
  unfold freP
  rw [List.range_succ, List.all_append, List.all_cons, List.all_nil, Bool.and_true, Bool.and_assoc]
theorem freP_free {n : Nat} {l : List (Int × Int)} {f : Nat → Bool} {rest i : Nat} (h : ∀ j, j < n → rest.testBit j = !f j) (hi : i < n) : freP n l f i n = freeI n l rest i := by
  unfold freP freeI
  rw [h i hi]
  congr 1
  rw [Bool.eq_iff_iff, List.all_eq_true, List.all_eq_true]
  constructor
  · intro hh j hj
    rw [h j (List.mem_range.1 hj), Bool.not_not]; exact hh j hj
  · intro hh j hj
    have := hh j hj
    rw [h j (List.mem_range.1 hj), Bool.not_not] at this; exact this
theorem find_range {n i : Nat} {p : Nat → Bool} (hi : i < n) (hp : p i = true) (hl : ∀ j, j < i → p j = false) : (List.range n).find? p = some i := by
  rw [List.find?_eq_some_iff_getElem]
  refine ⟨hp, i, by simpa using hi, by simp, fun j hj => ?_⟩
  rw [List.getElem_range, hl j hj]; rfl
theorem comps_step {n : Nat} {l : List (Int × Int)} (hv : Vld n l) {F : List Nat} {rest fl i : Nat} (h : CInv n l F rest) (hF : F.length ≤ fl) (hi : i < n) (hfree : freeI n l rest i = true) (hl : ∀ j, j < i → freeI n l rest j = false) :
    ∃ fl' F', compsF n l fl rest = sccM n l i :: compsF n l fl' (minusN rest (sccM n l i)) ∧ CInv n l F' (minusN rest (sccM n l i)) ∧ F'.length ≤ fl' := by
  have hri := ((freeI_iff hv.1 h.lt).1 hfree).1
  have h0 : rest ≠ 0 := fun e => by rw [e] at hri; simp [has] at hri
  obtain ⟨g, hg, _⟩ := (h.cov i).1 hri
  have hpos : 0 < F.length := List.length_pos_of_mem hg
  obtain ⟨fl', rfl⟩ : ∃ q, fl = q + 1 := ⟨fl - 1, by omega⟩
  obtain ⟨k, hk, _, _, hco, hnx⟩ := h.next hv h0 fl'
  have hu : compsF n l (fl' + 1) rest = sccM n l i :: compsF n l fl' (minusN rest (sccM n l i)) := by
    rw [compsF, find_range hi hfree hl]
  have he : F[k] = sccM n l i := by
    rw [hu] at hco
    injection hco with h1 _
    exact h1.symm
  rw [he] at hnx
  exact ⟨fl', _, hu, hnx, by rw [List.length_eraseIdx, if_pos hk]; omega⟩
theorem comps_end {n : Nat} {l : List (Int × Int)} {rest : Nat} (h : ∀ j, j < n → freeI n l rest j = false) : ∀ fl, compsF n l fl rest = []
  | 0 => rfl
  | fl + 1 => by
    have hn : (List.range n).find? (freeI n l rest) = none := by
      rw [List.find?_eq_none]
      intro j hj
      rw [h j (List.mem_range.1 hj)]; simp
    rw [compsF, hn]
theorem scc_nodes {n : Nat} {l : List (Int × Int)} (hn : n ≤ 40) (i : Nat) : nodesB 64 (sccM n l i).testBit = nodesB n fun j => rchB n l i j && rchB n l j i := by
  refine asc_ext (nodesB_asc _ _) (nodesB_asc _ _) fun x => ?_
  rw [mem_nodesB, mem_nodesB]
  constructor
  · rintro ⟨j, _, h, e⟩
    obtain ⟨h1, h2⟩ := mask_nodesB.1 (show has (sccM n l i) j from h)
    exact ⟨j, h1, h2, e⟩
  · rintro ⟨j, h1, h2, e⟩
    exact ⟨j, by omega, (mask_nodesB.2 ⟨h1, h2⟩ : has (sccM n l i) j), e⟩
theorem rest_step {n : Nat} {l : List (Int × Int)} (hn : n ≤ 40) {f : Nat → Bool} {rest i : Nat} (hr : rest < 2 ^ n) (h : ∀ j, j < n → rest.testBit j = !f j) : ∀ j, j < n → (minusN rest (sccM n l i)).testBit j = !(f j || (rchB n l i j && rchB n l j i)) := fun j hj => by
  have h1 := has_minusN (j := j) (p40 hn hr) (p40 hn (scc_lt (l := l) i))
  have h2 : has (sccM n l i) j ↔ (rchB n l i j && rchB n l j i) = true := by unfold sccM; rw [mask_nodesB]; exact ⟨fun h => h.2, fun h => ⟨hj, h⟩⟩
  have h3 : has rest j ↔ f j = false := by unfold has; rw [h j hj]; simp
  rw [h2, h3] at h1
  rw [Bool.eq_iff_iff]
  refine (show (minusN rest (sccM n l i)).testBit j = true ↔ _ from h1).trans ?_
  cases f j <;> cases rchB n l i j <;> cases rchB n l j i <;> simp

theorem cntB_more {n : Nat} {f f' : Nat → Bool} {i : Nat} (hi : i < n) (hf : f i = false) (hi' : f' i = true) (h : ∀ j, f j = true → f' j = true) : cntB n f' < cntB n f := by
  refine Nat.lt_of_le_of_lt ?_ (cntB_set hi hf)
  unfold cntB
  refine List.countP_mono_left fun x _ hx => ?_
  dsimp only at hx ⊢
  by_cases e : x = i
  · rw [e, hi'] at hx; cases hx
  · rw [if_neg e]
    cases hfx : f x
    · rfl
    · rw [h x hfx] at hx; cases hx
theorem comps_few {n : Nat} {l : List (Int × Int)} (hv : Vld n l) {ls q : List (List Int)} (h : ls ++ q = compsL n l) : ls.length ≤ 40 := by
  have h1 := (comps_spec hv).len
  have h2 := congrArg List.length h
  unfold compsL at h2
  rw [List.length_append, List.length_map] at h2
  have := hv.1.1
  omega
theorem OwnL.keptC {w w' : World} {base p : Nat} {xs : List Value} {ls : List (List Int)} (h : OwnL w base xs ls) (hg : w.grownBy w' (some p)) (hp : p < base) : OwnL w' base xs ls :=
  ⟨h.1, fun k hk => by obtain ⟨A, c, h1, h2⟩ := h.2 k hk; exact ⟨A, c, h1, ownsRow_far h2 hg hp⟩⟩
/-- the list of what was found beside the row of what is done -/
structure CoS (w : World) (gD n : Nat) (f : Nat → Bool) (vO : Value) (ys : List Value) (ls : List (List Int)) (T wr : World) : Prop where
  done : RowB wr gD n f
  s : OwnS wr (gD + 1) vO ys
  lst : OwnL wr (gD + 1) ys ls
  bel : Below gD T wr
  hB : gD + 1 ≤ wr.heap.size
theorem tab_at {n : Nat} {l : List (Int × Int)} {T wr : World} {b : Nat} {A : Option Addr} {c : Nat} {xs : List Value} (h : ReT n l T b (.slice A n c) xs) (hx : xs.length = n) (hb : Below T.heap.size T wr) {k i : Nat} (hk : k < n) (hi : i < n) : ∃ gR g, A = some ⟨gR, 0, none⟩ ∧ wr.cell? ⟨gR, k, none⟩ = some (.slice (some ⟨g, 0, none⟩) n n) ∧ wr.cell? ⟨g, i, none⟩ = some (.bool (rchB n l k i)) := by
  obtain ⟨gR, g, e, h1, _, _, h2⟩ := (h.below hb).at_ (j := k) (by omega)
  exact ⟨gR, g, e, h1, h2.cell hi⟩

set_option maxRecDepth 100000 in
set_option maxHeartbeats 4000000 in
theorem r10Components_any (A : Option Addr) (N : Int) (l : List (Int × Int)) (c : Nat) (w : World) (hr : RP w A l) (hlen : l.length ≤ 100000) :
    Calls Tryd.prog 16 #[.agg #[.int .i64 N, .slice A l.length c]] w (RetLs (compsL (nGn N l).toNat (nGl N l)) w) := by
  go_enter Tryd.func16, Tryd.ntmps16
  go_wp2_with fail
  obtain ⟨W0, hW, c0, c1, hb0, hlt0⟩ := boxed w 24 (.int .i64 N) (.slice A l.length c)
  have k0 : Blk W0 w.heap.size 24 #[.int .i64 N, .slice A l.length c] := by rw [← hW]; exact Blk.new w _ _
  rw [hW]
  have hr0 := hr.below hb0
  have hltA : ∀ b o, A = some ⟨b, o, none⟩ → 0 < (nGl N l).length → b ≠ w.heap.size := fun b o hA hl => by have := hr.lt hA (by unfold nGl at hl; split at hl <;> simp_all); omega
  clear hW hr c0 c1
  refine (r10Valid_any _ _ _ _ _ hr0 hlen).mono ?_
  rintro e w1 ⟨A', c', rfl, hr1, hAA, hb⟩
  have hlen' := nGl_len (N := N) hlen
  have k1 := k0.below hb k0.lt
  obtain ⟨a0, a1, a2, a3⟩ := k1.two
  have hbb := endB hb0 hb
  obtain ⟨n, hn, hv⟩ := vld_proper N l hlen
  have Hnn := Lib.hid (show (nGn N l).toNat = n by rw [hn]; rfl)
  rw [hn]
  clear hn
  generalize hgl : nGl N l = l' at *
  have Hgl := Lib.hid hgl
  clear hgl
  have hltA' : ∀ b o, A' = some ⟨b, o, none⟩ → 0 < l'.length → b ≠ w.heap.size := fun b o hA hl => by
    rcases hAA with h | h
    · rw [h] at hA; exact hltA b o hA hl
    · subst h; simp at hl
  have k2 : Blk _ w.heap.size 24 #[.int .i64 (n : Int), .slice A' l'.length c'] := (k1.set_ 0 (.int .i64 (n : Int))).set_ 1 (.slice A' l'.length c')
  have hr2 := hr1.far2 hltA' (.int .i64 (n : Int)) (.slice A' l'.length c')
  have hE : Below w.heap.size w ((w1.setCell ⟨w.heap.size, 0, none⟩ (.int .i64 (n : Int))).setCell ⟨w.heap.size, 1, none⟩ (.slice A' l'.length c')) := (hbb.setCell (p := ⟨w.heap.size, 0, none⟩) (Nat.le_refl _) _).setCell (p := ⟨w.heap.size, 1, none⟩) (Nat.le_refl _) _
  obtain ⟨W2, hW2⟩ : ∃ W2, (w1.setCell ⟨w.heap.size, 0, none⟩ (.int .i64 (n : Int))).setCell ⟨w.heap.size, 1, none⟩ (.slice A' l'.length c') = W2 := ⟨_, rfl⟩
  rw [hW2] at k2 hr2 hE
  obtain ⟨d0, d1, _, _⟩ := k2.two
  have hn40 := hv.1.1
  have HV := Lib.hid hv; have Hk2 := Lib.hid k2; have Hr2 := Lib.hid hr2; have HE := Lib.hid hE
  clear hr0 hr1 hAA hltA hltA' hb hbb hb0 hlt0 hlen hlen' k0 k1 hv hr2
  have hst0 : ReT n l' W2 W2.heap.size (.slice none 0 0) [] := ⟨OwnBB.nil _ _, fun j hj => absurd hj (by simp)⟩
  go_wp2_with fail

  clear hW2 k2 hE d0 d1 a0 a1 a2 a3
  go_loopw [3, 4] (fun t3 t4 wr => ∃ xs : List Value, xs.length ≤ n ∧ t4 = .int .i64 xs.length ∧ ReT n l' wr W2.heap.size t3 xs ∧ Below W2.heap.size W2 wr) (fun _ t4 _ => n - (intOf t4).toNat)
  case atStart => exact ⟨[], by simp, rfl, hst0, Below.refl _ _⟩
  case round =>
    clear hst0
    obtain ⟨xs, hxs, rfl, hst, hbl⟩ := hrel
    have kw := Hk2.out.below hbl Hk2.out.lt
    have hrw := Hr2.out.below hbl
    obtain ⟨d0, d1, _, _⟩ := kw.two
    obtain ⟨AT, cT, rfl⟩ := hst.own.form
    have Hst := Lib.hid hst
    clear hst
    by_cases hxn : xs.length < n
    case pos =>
      have hxn' : (xs.length : Int) < (n : Int) := by omega
      go_wp2_with fail
      refine (reached_any A' n l' c' xs.length wr hrw HV.out.1 hxn).mono ?_
      rintro e w3 ⟨g, rfl, hg, hrg, hb3⟩
      have hown3 : OwnBB w3 W2.heap.size (.slice AT xs.length cT) xs := ownsRow_below Hst.out.own hb3
      have Hown3 := Lib.hid hown3; have Hrg := Lib.hid hrg
      clear hown3 hrg
      have hbl3 := hbl.trans (hb3.mono hbl.size)
      have hbg : W2.heap.size ≤ g := Nat.le_trans hbl.size hg
      go_wp2_with (at_builtin; refine wpList_appBB (by rfl) _ _ (by rfl) w3 W2.heap.size _ xs (some ⟨g, 0, none⟩) n n Hown3.out (by rfl) (by rfl) (by omega) hbl3.size ?_; intro v' w4 hown4 hb4 hg4)
      go_roundw
      case rel => exact ⟨xs ++ [.slice (some ⟨g, 0, none⟩) n n], by simp; omega, by simp, Hst.out.app hb3 Hrg.out hbg hown4 hg4, hbl3.trans hb4⟩
      case measure => simp [intOf]; omega
    case neg =>
    have hxe : xs.length = n := by omega
    have hmk := run_make_row' (P := Tryd.prog) 85 4 (.bool false) 1 Tryd.underlying85 info_bool rfl .i64 .i64 n (by omega) (by omega)
    have HT := Lib.hid (show ReT n l' wr W2.heap.size (.slice AT n cT) xs by have := Hst.out; rw [hxe] at this; exact this)
    have Hxe := Lib.hid hxe
    have hET := hbl.mono (Nat.le_refl _)
    have hEw : Below w.heap.size w wr := HE.out.trans (hbl.mono HE.out.size)
    have HEw := Lib.hid hEw; have Hkw := Lib.hid kw
    rw [hxe] at hxn ⊢
    clear hxs hxn hbl hrw hET hEw kw Hst hxe Hk2 Hr2 HE
    clear d0 d1
    have d0 : wr.cell? ⟨w.heap.size, 0, none⟩ = some (.int .i64 (n : Int)) := Hkw.out.two.1
    go_upto_region 10 with fail
    obtain ⟨T, hT0⟩ : ∃ T, T = wr := ⟨_, rfl⟩
    subst hT0
    obtain ⟨W3, hW3, hrow, hb3, hs3⟩ : ∃ W3, T.alloc (.cells (madeCells #[.bool false] n) 4) = W3 ∧ RowB W3 T.heap.size n (fun _ => false) ∧ Below T.heap.size T W3 ∧ W3.heap.size = T.heap.size + 1 :=
      ⟨_, rfl, World.rowIs_made _ _ _ _, newB _ _, by simp⟩
    rw [hW3]
    have hlt : w.heap.size < T.heap.size := Hkw.out.lt
    generalize hgD : T.heap.size = gD at *
    have HgD := Lib.hid hgD
    clear hgD hW3 hmk d0
    have hst : CoS w gD n (fun _ => false) (.slice none 0 0) [] [] T W3 := ⟨hrow, OwnS.nil _ _, OwnL.nil _ _, hb3, by omega⟩
    clear hrow hb3 hs3
    go_loopw [6, 7] (fun t6 t7 wr => ∃ (i : Nat) (f : Nat → Bool) (ys : List Value) (ls : List (List Int)) (rest fl : Nat) (F : List Nat), i ≤ n ∧ t7 = .int .i64 i ∧ CoS w gD n f t6 ys ls T wr ∧ (∀ j, j < n → rest.testBit j = !f j) ∧ CInv n l' F rest ∧ F.length ≤ fl ∧ ls ++ (compsF n l' fl rest).map (fun m => nodesB 64 m.testBit) = compsL n l' ∧ ∀ j, j < i → freeI n l' rest j = false) (fun _ t7 wr => cntW gD n wr * 41 + (n - (intOf t7).toNat))
    case atStart => exact ⟨0, _, [], [], 2 ^ n - 1, n, _, Nat.zero_le _, rfl, hst, fun j hj => by rw [Nat.testBit_two_pow_sub_one]; simp [hj], comps_start HV.out, flen_rep n l', rfl, fun j hj => absurd hj (Nat.not_lt_zero j)⟩
    case round =>
      clear hst
      obtain ⟨i, f, ys, ls, rest, fl, F, hi, rfl, hst, hrest, hci, hfl, heq, hlow⟩ := hrel
      have d0 : wr.cell? ⟨w.heap.size, 0, none⟩ = some (.int .i64 (n : Int)) := (hst.bel.cell (p := ⟨w.heap.size, 0, none⟩) hlt).trans Hkw.out.two.1
      have Hst := Lib.hid hst; have Hrest := Lib.hid hrest; have Hci := Lib.hid hci; have Hfl := Lib.hid hfl; have Heq := Lib.hid heq; have Hlow := Lib.hid hlow
      clear hst hrest hci hfl heq hlow
      by_cases hin : i < n
      case neg =>
        obtain rfl : i = n := by omega
        have heq := Heq.out
        rw [comps_end Hlow.out fl, List.map_nil, List.append_nil] at heq
        have Heq2 := Lib.hid heq
        clear heq
        obtain ⟨AO, cO, rfl, hro, hno⟩ := OwnS.forms3 Hst.out.s Hst.out.lst
        have Hro := Lib.hid hro; have Hno := Lib.hid hno
        clear hro hno
        have hle : w.heap.size ≤ gD := by omega
        go_wp2_with fail
        go_ret
        rw [Hnn.out, ← Heq2.out]
        exact ⟨AO, cO, rfl, Hro.out, Hno.out, HEw.out.trans (Hst.out.bel.mono hle)⟩
      case pos =>
      have hi0 : (0 : Int) ≤ (i : Int) := by omega
      have hi1 : (i : Int) < (n : Int) := by omega
      have ci := Hst.out.done.cell hin
      have hbT : Below T.heap.size T wr := by rw [HgD.out]; exact Hst.out.bel
      have HbT := Lib.hid hbT
      clear hbT
      have hp0 : (!f i) = freP n l' f i 0 := by simp [freP]
      have Hp0 := Lib.hid hp0
      clear hp0
      obtain ⟨wo, hwo⟩ : ∃ wo, wo = wr := ⟨_, rfl⟩
      subst hwo
      go_wp2_with fail
      clear ci
      go_loopw [8, 9] (fun t8 t9 wr => ∃ k : Nat, k ≤ n ∧ t8 = .bool (freP n l' f i k) ∧ t9 = .int .i64 k ∧ wo = wr) (fun _ t9 _ => n - (intOf t9).toNat)
      case atStart => exact ⟨0, Nat.zero_le _, by rw [← Hp0.out], rfl, rfl⟩
      case round =>
        obtain ⟨k, hk, rfl, rfl, rfl⟩ := hrel
        by_cases hkn : k < n
        case pos =>
          have hkn' : (k : Int) < (n : Int) := by omega
          have hk0 : (0 : Int) ≤ (k : Int) := by omega
          obtain ⟨gR, g1, rfl, hk1, hk2⟩ := tab_at HT.out Hxe.out HbT.out hkn hin
          obtain ⟨gR2, g2, e, hk3, hk4⟩ := tab_at HT.out Hxe.out HbT.out hin hkn
          cases e
          have ck := Hst.out.done.cell hkn
          have Hsu := Lib.hid (freP_succ n l' f i k)
          obtain ⟨b0, hb0⟩ : ∃ b, freP n l' f i k = b := ⟨_, rfl⟩
          obtain ⟨b1, hb1⟩ : ∃ b, f k = b := ⟨_, rfl⟩
          obtain ⟨b2, hb2⟩ : ∃ b, rchB n l' k i = b := ⟨_, rfl⟩
          obtain ⟨b3, hb3⟩ : ∃ b, rchB n l' i k = b := ⟨_, rfl⟩
          rw [hb1] at ck
          rw [hb2] at hk2
          rw [hb3] at hk4
          rw [hb0]
          have Hb := Lib.hid (show freP n l' f i (k + 1) = (b0 && (b1 || !b2 || b3)) by rw [Hsu.out, hb0, hb1, hb2, hb3])
          clear hb0 hb1 hb2 hb3 Hsu
          cases b0 <;> cases b1 <;> cases b2
          all_goals
            go_wp2_with fail
            go_roundw
            case rel => exact ⟨k + 1, by omega, by rw [Hb.out]; simp, by go_num, trivial⟩
            case measure => simp [intOf]; omega
        case neg =>
        obtain rfl : k = n := by omega
        have hfree := freP_free (l := l') Hrest.out hin
        obtain ⟨b0, hb0⟩ : ∃ b, freeI k l' rest i = b := ⟨_, rfl⟩
        rw [hb0] at hfree
        rw [hfree]
        have Hb0 := Lib.hid hb0
        clear hfree hb0
        cases b0
        case false =>
          go_wp2_with fail
          go_roundw
          case rel => exact ⟨i + 1, f, ys, ls, rest, fl, F, by omega, by go_num, Hst.out, Hrest.out, Hci.out, Hfl.out, Heq.out, fun j hj => by
            by_cases e : j < i
            · exact Hlow.out j e
            · obtain rfl : j = i := by omega
              exact Hb0.out⟩
          case measure => simp [intOf]; omega
        case true =>
        clear d0
        have d0 : wo.cell? ⟨w.heap.size, 0, none⟩ = some (.int .i64 (k : Int)) := (Hst.out.bel.cell (p := ⟨w.heap.size, 0, none⟩) hlt).trans Hkw.out.two.1
        obtain ⟨fl', F', hco, hci', hfl'⟩ := comps_step HV.out Hci.out Hfl.out hin Hb0.out Hlow.out
        have hfi : f i = false := by
          have h1 := ((freeI_iff HV.out.1 Hci.out.lt).1 Hb0.out).1
          unfold has at h1
          rw [Hrest.out i hin] at h1
          simpa using h1
        have Hco := Lib.hid hco; have Hci2 := Lib.hid hci'; have Hfl2 := Lib.hid hfl'; have Hfi := Lib.hid hfi
        obtain ⟨p, hp⟩ : ∃ p : Nat → Bool, (fun j => rchB k l' i j && rchB k l' j i) = p := ⟨_, rfl⟩
        have Hp := Lib.hid (show ∀ j, p j = (rchB k l' i j && rchB k l' j i) from fun j => by rw [← hp])
        have Hpn := Lib.hid (show nodesB 64 (sccM k l' i).testBit = nodesB k p by rw [← hp]; exact scc_nodes hn40 i)
        have hog : gD < wo.heap.size := Nat.lt_of_lt_of_le (Nat.lt_succ_self _) Hst.out.hB
        clear hco hci' hfl' hfi hp
        go_wp2_with fail
        go_loopw [10, 11] (fun t10 t11 wr => ∃ (q : Nat) (f' : Nat → Bool), q ≤ k ∧ t11 = .int .i64 q ∧ OwnI wr wo.heap.size t10 (nodesB q p) ∧ RowB wr gD k f' ∧ (∀ j, f' j = (f j || (decide (j < q) && p j))) ∧ wo.grownBy wr (some gD)) (fun _ t11 _ => k - (intOf t11).toNat)
        case atStart => exact ⟨0, f, Nat.zero_le _, rfl, OwnI.nil _ _, Hst.out.done, fun j => by simp, World.grownBy.refl _ _⟩
        case round =>
          obtain ⟨q, f', hq, rfl, hown, hdone, hf', hgr⟩ := hrel
          have e0 : wr.cell? ⟨w.heap.size, 0, none⟩ = some (.int .i64 (k : Int)) := hgr.cell d0 (by simp; omega)
          have hbg : Below gD wo wr := ⟨hgr.os, hgr.tape, hgr.output, hgr.size, fun j hj => hgr.block j (by omega) (by simp; omega)⟩
          have hbT2 : Below T.heap.size T wr := by rw [HgD.out]; exact Hst.out.bel.trans hbg
          have HbT2 := Lib.hid hbT2; have Hown := Lib.hid hown; have Hdone := Lib.hid hdone; have Hf2 := Lib.hid hf'; have Hgr := Lib.hid hgr
          clear hbg hbT2 hown hdone hf' hgr
          by_cases hqk : q < k
          case pos =>
            have hqk' : (q : Int) < (k : Int) := by omega
            have hq0 : (0 : Int) ≤ (q : Int) := by omega
            obtain ⟨gR, g1, rfl, hk1, hk2⟩ := tab_at HT.out Hxe.out HbT2.out hin hqk
            obtain ⟨gR2, g2, e, hk3, hk4⟩ := tab_at HT.out Hxe.out HbT2.out hqk hin
            cases e
            have Hsn := Lib.hid (nodesB_succ q p)
            have hql : (nodesB q p).length ≤ 1000000 := by have := nodesB_length q p; omega
            have hpq := Hp.out q
            obtain ⟨b1, hb1⟩ : ∃ b, rchB k l' i q = b := ⟨_, rfl⟩
            obtain ⟨b2, hb2⟩ : ∃ b, rchB k l' q i = b := ⟨_, rfl⟩
            rw [hb1] at hk2 hpq
            rw [hb2] at hk4 hpq
            have Hpq := Lib.hid hpq
            clear hb1 hb2 hpq
            by_cases hbb : b1 = true ∧ b2 = true
            case pos =>
              obtain ⟨rfl, rfl⟩ := hbb
              go_wp2_with (at_builtin; refine wpList_appI (by rfl) _ _ (by rfl) wr wo.heap.size _ _ (q : Int) Hown.out (by rfl) (by rfl) hql Hgr.out.size ?_; intro v' w3 hown' hb3 _; have hd3 : RowB w3 gD k f' := rowIs_below Hdone.out hb3 hog; have cd3 := hd3.cell hqk; have fd3 := hd3.frozen q)
              have hpt : p q = true := by rw [Hpq.out]; rfl
              have hgr3 : wo.grownBy w3 (some gD) := ⟨hb3.os.trans Hgr.out.os, hb3.tape.trans Hgr.out.tape, hb3.output.trans Hgr.out.output, Nat.le_trans Hgr.out.size hb3.size, fun j hj hne => (hb3.block j hj).trans (Hgr.out.block j hj hne)⟩
              have Hpt := Lib.hid hpt; have Hgr3 := Lib.hid hgr3; have Hown2 := Lib.hid hown'; have Hd3 := Lib.hid hd3
              go_roundw
              case rel => exact ⟨q + 1, _, by omega, by go_num, by rw [Hsn.out, if_pos Hpt.out]; exact ownsRow_setCell_below Hown2.out (a := ⟨gD, q, none⟩) hog _, Hd3.out.set q true, fun j => by
                by_cases e : j = q
                · subst e; rw [if_pos rfl, Hpt.out]; simp
                · rw [if_neg e, Hf2.out]; congr 2; rw [decide_eq_decide]; omega, grownBy_trans Hgr3.out (grownBy_setCell w3 gD q _)⟩
              case measure => simp [intOf]; omega
            case neg =>
              have hpf : p q = false := by rw [Hpq.out]; cases b1 <;> cases b2 <;> simp_all
              have Hpf := Lib.hid hpf
              clear hpf Hpq
              cases b1 <;> cases b2
              case true.true => exact absurd ⟨rfl, rfl⟩ hbb
              all_goals
                clear hbb
                go_wp2_with fail
                go_roundw
                case rel => exact ⟨q + 1, f', by omega, by go_num, by rw [Hsn.out, Hpf.out]; simpa using Hown.out, Hdone.out, fun j => by
                  rw [Hf2.out]
                  by_cases e : j = q
                  · subst e; rw [Hpf.out]; simp
                  · congr 2; rw [decide_eq_decide]; omega, Hgr.out⟩
                case measure => simp [intOf]; omega
          case neg =>
          obtain rfl : q = k := by omega
          obtain ⟨AX, cX, rfl, -, -⟩ := Hown.out.form
          have hs := ownsRow_far Hst.out.s Hgr.out (Nat.lt_succ_self gD)
          have hls := (OwnL.keptC Hst.out.lst Hgr.out (Nat.lt_succ_self gD)).snoc (Hown.out.mono Hst.out.hB)
          have hsz : gD + 1 ≤ wr.heap.size := Nat.le_trans Hst.out.hB Hgr.out.size
          have hys : ys.length ≤ 1000000 := by have := comps_few HV.out Heq.out; have := Hst.out.lst.1; omega
          have hbg : Below gD T wr := Hst.out.bel.trans ⟨Hgr.out.os, Hgr.out.tape, Hgr.out.output, Hgr.out.size, fun j hj => Hgr.out.block j (by omega) (by simp; omega)⟩
          have Hs := Lib.hid hs; have Hls := Lib.hid hls; have Hys := Lib.hid hys; have Hbg := Lib.hid hbg; have Hsz := Lib.hid hsz
          clear hs hls hys hbg hsz d0
          go_wp2_with (at_builtin; refine wpList_appS (by rfl) _ _ (by rfl) wr (gD + 1) _ ys AX (nodesB q p).length cX Hs.out (by rfl) (by rfl) Hys.out Hsz.out ?_; intro v' w4 hown4 hb4 hg4; have Hg4 := Lib.hid hg4)
          have hg4 := Hg4.out
          have hdone := rowIs_append Hdone.out Hs.out hg4 (Nat.lt_succ_self gD)
          have hco4 : CoS w gD q f' v' (ys ++ [.slice AX (nodesB q p).length cX]) (ls ++ [nodesB q p]) T w4 :=
            ⟨hdone, hown4, OwnL.append Hls.out Hs.out hg4, Hbg.out.trans (hb4.mono (Nat.le_succ _)), Nat.le_trans Hsz.out hb4.size⟩
          have hfp : ∀ j, j < q → f' j = (f j || p j) := fun j hj => by rw [Hf2.out]; simp [hj]
          have hpi : p i = true := by
            rw [Hp.out, (rch_iff HV.out.1 hin).2 Rc.refl]; rfl
          have hcnt : cntW gD q w4 < cntW gD q wo := by
            rw [RowB.cnt hdone, Hst.out.done.cnt]
            exact cntB_more hin Hfi.out (by rw [hfp i hin, hpi]; simp) (fun j hj => by rw [Hf2.out, hj]; rfl)
          have hrs := rest_step (l := l') (i := i) hn40 Hci.out.lt Hrest.out
          have heq := Heq.out
          rw [Hco.out, List.map_cons, Hpn.out] at heq
          have Hco4 := Lib.hid hco4; have Hfp := Lib.hid hfp; have Hcnt := Lib.hid hcnt; have Hrs := Lib.hid hrs; have Heq4 := Lib.hid heq
          clear hdone hco4 hfp hpi hrs heq
          go_roundw
          case rel => exact ⟨0, f', _, _, _, fl', F', Nat.zero_le _, rfl, Hco4.out, fun j hj => by rw [Hrs.out j hj, Hfp.out j hj, Hp.out], Hci2.out, Hfl2.out, by rw [List.append_assoc]; exact Heq4.out, fun j hj => absurd hj (Nat.not_lt_zero j)⟩
          case measure => simp [intOf]; omega

end Go.Proofs.YtkflanjlnbdkmaaDoor
