/- The reference of layer 12: build, Label, Ranks. -/
import Derived.Test.YtiljbfeipfdmdaaDoorGnd
namespace Go.Proofs.YtiljbfeipfdmdaaDoor
open Go.ChangeShapes Go.WideShapes Go.ChangeAt Go.RowKit

/-- a slice of the call's own that holds f at 0 .. n-1 -/
def OwnF (w : World) (b : Nat) (A : Option Addr) (c n : Nat) (f : Nat → Int) : Prop := OwnI w b (.slice A n c) (lst n f)
section
variable {w w' : World} {b : Nat} {A : Option Addr} {c n : Nat} {f : Nat → Int}
theorem OwnF.own (h : OwnF w b A c n f) : OwnI w b (.slice A (lst n f).length c) (lst n f) := by rw [lst_length]; exact h
theorem OwnF.of {l : List Int} (h : OwnI w b (.slice A n c) l) (e : l = lst n f) : OwnF w b A c n f := by subst e; exact h
theorem OwnF.pos (h : OwnF w b A c n f) (hn : 0 < n) : ∃ g, A = some ⟨g, 0, none⟩ ∧ b ≤ g ∧ g < w.heap.size ∧ ∀ i, w.frozen? ⟨g, i, none⟩ = false := h.own.pos (by rw [lst_length]; exact hn)
theorem OwnF.ri (h : OwnF w b A c n f) : RI w A (lst n f) := h.own.ri
theorem OwnF.below (h : OwnF w b A c n f) (hb : Below w.heap.size w w') : OwnF w' b A c n f := OwnI.below h hb
theorem OwnF.congr {f' : Nat → Int} (h : OwnF w b A c n f) (e : ∀ i, i < n → f i = f' i) : OwnF w b A c n f' := by unfold OwnF; rw [← lst_congr e]; exact h
theorem OwnF.far (h : OwnF w b A c n f) {a : Addr} (ha : (Value.slice A n c).ownBlock ≠ some a.block) (u : Value) : OwnF (w.setCell a u) b A c n f := OwnI.far h ha u
theorem OwnF.nil (h : OwnF w b A c n f) : A = none → lst n f = [] ∧ c = 0 := fun e => by
  obtain ⟨A', c', e', _, hn⟩ := OwnI.form2 h
  injection e' with e1 _ e3
  subst e1 e3
  exact hn e
end
theorem OwnF.cell {w : World} {b g c n : Nat} {f : Nat → Int} (h : OwnF w b (some ⟨g, 0, none⟩) c n f) {k : Nat} (hk : k < n) : w.cell? ⟨g, k, none⟩ = some (.int .i64 (f k)) := by
  have := h.own.cellAt (k := k) (by rw [lst_length]; exact hk)
  rw [lst_getD hk] at this; exact this
theorem OwnF.store {w : World} {b g c n : Nat} {f : Nat → Int} (h : OwnF w b (some ⟨g, 0, none⟩) c n f) {k : Nat} (hk : k < n) (x : Int) : OwnF (w.setCell ⟨g, k, none⟩ (.int .i64 x)) b (some ⟨g, 0, none⟩) c n (upd f k x) := by
  have := h.own.store (k := k) (by rw [lst_length]; exact hk) x
  rw [lst_set, lst_length] at this; exact this

/-- what the reference's build holds while it goes on -/
structure GC (w : World) (n : Nat) (A : Option Addr) (len c : Nat) (A1 : Option Addr) (c1 : Nat) (A2 : Option Addr) (c2 : Nat) (L R : Nat → Int) (wr : World) : Prop where
  box : Blk wr w.heap.size 27 #[.int .i64 (n : Int), .slice A len c]
  lab : OwnF wr (w.heap.size + 1) A1 c1 n L
  rnk : OwnF wr (w.heap.size + 1) A2 c2 n R
  apt : Far (.slice A1 n c1) (.slice A2 n c2)
  bel : Below w.heap.size w wr
section
variable {w : World} {n : Nat} {A : Option Addr} {len c : Nat} {A1 : Option Addr} {c1 : Nat} {A2 : Option Addr} {c2 : Nat} {L R : Nat → Int} {wr w' : World}
theorem GC.below (h : GC w n A len c A1 c1 A2 c2 L R wr) (hb : Below wr.heap.size wr w') : GC w n A len c A1 c1 A2 c2 L R w' :=
  { h with box := h.box.below hb h.box.lt, lab := h.lab.below hb, rnk := h.rnk.below hb, bel := h.bel.trans (hb.mono h.bel.size) }
theorem GC.setL {g1 : Nat} (h : GC w n A len c (some ⟨g1, 0, none⟩) c1 A2 c2 L R wr) {i : Nat} (hi : i < n) (x : Int) : GC w n A len c (some ⟨g1, 0, none⟩) c1 A2 c2 (upd L i x) R (wr.setCell ⟨g1, i, none⟩ (.int .i64 x)) := by
  have hg := OwnI.block h.lab g1 rfl
  exact { h with box := h.box.far (p := ⟨g1, i, none⟩) (by show w.heap.size ≠ g1; omega) _, lab := h.lab.store hi x, rnk := h.rnk.far (a := ⟨g1, i, none⟩) (fun e => h.apt g1 rfl e) _, bel := h.bel.setCell (p := ⟨g1, i, none⟩) (by show w.heap.size ≤ g1; omega) _ }
theorem GC.setR {g2 : Nat} (h : GC w n A len c A1 c1 (some ⟨g2, 0, none⟩) c2 L R wr) {i : Nat} (hi : i < n) (x : Int) : GC w n A len c A1 c1 (some ⟨g2, 0, none⟩) c2 L (upd R i x) (wr.setCell ⟨g2, i, none⟩ (.int .i64 x)) := by
  have hg := OwnI.block h.rnk g2 rfl
  exact { h with box := h.box.far (p := ⟨g2, i, none⟩) (by show w.heap.size ≠ g2; omega) _, rnk := h.rnk.store hi x, lab := h.lab.far (a := ⟨g2, i, none⟩) (fun e => h.apt g2 e rfl) _, bel := h.bel.setCell (p := ⟨g2, i, none⟩) (by show w.heap.size ≤ g2; omega) _ }
theorem GC.congr {L' R' : Nat → Int} (h : GC w n A len c A1 c1 A2 c2 L R wr) (e : ∀ i, i < n → L i = L' i) (e' : ∀ i, i < n → R i = R' i) : GC w n A len c A1 c1 A2 c2 L' R' wr :=
  { h with lab := h.lab.congr e, rnk := h.rnk.congr e' }
end

/-- the end of a round -/
theorem round_endL {n : Nat} {l : List (Int × Int)} (hv : Vld n l) {L0 R0 L R : Nat → Int} {q : List Int} {r : Int} (hq : QueI n l L0 q) (hc : CurI l (midL n l L0) (midR n l L0 r R0) r q L R)
    (hd : ∀ x ∈ q, ∀ j : Nat, (x, (j : Int)) ∈ l → L j ≠ 3) : L = nxL n l L0 ∧ R = nxR n l L0 r R0 := by
  have key : ∀ i, L i = nxL n l L0 i ∧ R i = nxR n l L0 r R0 i := fun i => by
    rcases hc i with ⟨h1, h2⟩ | ⟨h1, h2, h3, x, hx, hxi⟩
    · cases hf : frB n l L0 i
      · cases hh : gHitB n l L0 i
        · simp [nxL, nxR, midL, midR, hf, hh] at h1 h2 ⊢; exact ⟨h1, h2⟩
        · exfalso
          obtain ⟨h3, _, a, ha, hfa⟩ := (gHitB_iff hv.1).1 hh
          have h4 := hd (a : Int) ((hq _).2 ⟨a, rfl, hfa⟩) i ha
          rw [h1] at h4
          simp [midL, hf] at h4
          exact h4 h3
      · simp [nxL, nxR, midL, midR, hf] at h1 h2 ⊢; exact ⟨h1, h2⟩
    · obtain ⟨a, rfl, _, hfa⟩ := hq.nat hx
      have hnf := not_free_of_free hv.1 hfa hxi
      have hL3 : L0 i = 3 := by simpa [midL, hnf] using h1
      have hh : gHitB n l L0 i = true := (gHitB_iff hv.1).2 ⟨hL3, hnf, a, hxi, hfa⟩
      simp [nxL, nxR, hnf, hh, h2, h3]
  exact ⟨funext fun i => (key i).1, funext fun i => (key i).2⟩
/-- the nodes that become In, as a list -/
def queL (n : Nat) (l : List (Int × Int)) (L : Nat → Int) : List Int := nodesB n (frB n l L)
theorem queL_que (n : Nat) (l : List (Int × Int)) (L : Nat → Int) : QueI n l L (queL n l L) := fun x => by
  unfold queL
  rw [mem_nodesB]
  constructor
  · rintro ⟨j, _, hj, rfl⟩; exact ⟨j, rfl, hj⟩
  · rintro ⟨j, rfl, hj⟩
    refine ⟨j, ?_, hj, rfl⟩
    unfold frB at hj
    simp only [Bool.and_eq_true, decide_eq_true_eq] at hj
    exact hj.1.1
/-- what the test of the second loop asks -/
theorem cur_test {n : Nat} {l : List (Int × Int)} {L0 R0 L R : Nat → Int} {r : Int} (hR0 : ∀ i, R0 i < r) (hc : CurI l (midL n l L0) (midR n l L0 r R0) r (queL n l L0) L R) (k : Nat) :
    (L k = 1 ∧ R k = r) ↔ (k : Int) ∈ queL n l L0 := by
  have hq := queL_que n l L0
  constructor
  · rintro ⟨h1, h2⟩
    rcases hc k with ⟨e1, e2⟩ | ⟨_, e1, _⟩
    · cases hf : frB n l L0 k
      · have := hR0 k
        simp [midR, hf] at e2
        omega
      · exact (hq _).2 ⟨k, rfl, hf⟩
    · omega
  · intro h
    obtain ⟨j, e, _, hf⟩ := hq.nat h
    have : k = j := by omega
    subst this
    have m1 : midL n l L0 k = 1 := by simp [midL, hf]
    have m2 : midR n l L0 r R0 k = r := by simp [midR, hf]
    rcases hc k with ⟨e1, e2⟩ | ⟨e1, _⟩
    · exact ⟨by omega, by omega⟩
    · omega
theorem cur_set {l : List (Int × Int)} {M MR L R : Nat → Int} {r : Int} {q : List Int} (hc : CurI l M MR r q L R) {x : Int} (hx : x ∈ q) {j : Nat} (hxj : (x, (j : Int)) ∈ l) (h3 : L j = 3) : CurI l M MR r q (upd L j 2) (upd R j r) := fun i => by
  by_cases e : i = j
  · subst e
    refine .inr ⟨?_, upd_same _ _ _, upd_same _ _ _, x, hx, hxj⟩
    rcases hc i with ⟨h, _⟩ | ⟨h, _⟩ <;> omega
  · rw [upd_ne e, upd_ne e]; exact hc i

/-- some node below j becomes In -/
def chB (n : Nat) (l : List (Int × Int)) (L : Nat → Int) (j : Nat) : Bool := (List.range j).any (frB n l L)
theorem chB_succ (n : Nat) (l : List (Int × Int)) (L : Nat → Int) (j : Nat) : chB n l L (j + 1) = (chB n l L j || frB n l L j) := by
  unfold chB
  rw [List.range_succ, List.any_append]; simp
theorem chB_rest {n : Nat} {l : List (Int × Int)} {L : Nat → Int} (h : chB n l L n = false) : restB n l L := fun i hi => by
  unfold chB at h
  rw [List.any_eq_false] at h
  have := h i (List.mem_range.2 hi)
  simpa using this
theorem chB_some {n : Nat} {l : List (Int × Int)} {L : Nat → Int} (h : chB n l L n = true) : ¬ restB n l L := fun hr => by
  unfold chB at h
  rw [List.any_eq_true] at h
  obtain ⟨i, hi, hf⟩ := h
  rw [hr i (List.mem_range.1 hi)] at hf; cases hf
/-- the first loop of a round, the first j nodes done -/
def preL (n : Nat) (l : List (Int × Int)) (L : Nat → Int) (x : Int) (F : Nat → Int) (j : Nat) : Nat → Int := fun i => if i < j ∧ frB n l L i = true then x else F i
theorem preL_hit {n : Nat} {l : List (Int × Int)} {L : Nat → Int} {x : Int} {F : Nat → Int} {j : Nat} (h : frB n l L j = true) : preL n l L x F (j + 1) = upd (preL n l L x F j) j x := by
  funext i
  unfold preL upd
  by_cases e : i = j
  · subst e; simp [h]
  · rw [if_neg e]
    have : (i < j + 1 ∧ frB n l L i = true) ↔ (i < j ∧ frB n l L i = true) := ⟨fun h => ⟨by omega, h.2⟩, fun h => ⟨by omega, h.2⟩⟩
    simp only [this]
theorem preL_miss {n : Nat} {l : List (Int × Int)} {L : Nat → Int} {x : Int} {F : Nat → Int} {j : Nat} (h : frB n l L j = false) : preL n l L x F (j + 1) = preL n l L x F j := by
  funext i
  unfold preL
  have : (i < j + 1 ∧ frB n l L i = true) ↔ (i < j ∧ frB n l L i = true) := ⟨fun h' => ⟨by
    rcases Nat.lt_or_ge i j with hlt | hge
    · exact hlt
    · have : i = j := by omega
      subst this; rw [h] at h'; exact absurd h'.2 (by simp), h'.2⟩, fun h => ⟨by omega, h.2⟩⟩
  simp only [this]
/-- node i is free as far as the first attackers go -/
def frS (l : List (Int × Int)) (L : Nat → Int) (i s : Nat) : Bool := (L i == 3) && ((attackersL l i).take s).all fun a => L a.toNat == 2
theorem frS_zero (l : List (Int × Int)) (L : Nat → Int) (i : Nat) : frS l L i 0 = (L i == 3) := by simp [frS]
theorem frS_succ {l : List (Int × Int)} {L : Nat → Int} {i s : Nat} (h : s < (attackersL l i).length) {a : Nat} (ha : (attackersL l i)[s] = (a : Int)) : frS l L i (s + 1) = (frS l L i s && (L a == 2)) := by
  unfold frS
  rw [List.take_succ_eq_append_getElem h, List.all_append, ha, ← Bool.and_assoc]
  simp
theorem frS_all {n : Nat} {l : List (Int × Int)} {L : Nat → Int} {i s : Nat} (hi : i < n) (h : ¬ s < (attackersL l i).length) : frS l L i s = frB n l L i := by
  unfold frS frB
  rw [List.take_of_length_le (by omega)]
  simp [hi]

theorem preL_full (n : Nat) (l : List (Int × Int)) (L : Nat → Int) (x : Int) (F : Nat → Int) : preL n l L x F n = fun i => if frB n l L i then x else F i := by
  funext i
  unfold preL
  have : (i < n ∧ frB n l L i = true) ↔ frB n l L i = true := ⟨fun h => h.2, fun h => ⟨by
    have := h; unfold frB at this; simp only [Bool.and_eq_true, decide_eq_true_eq] at this; exact this.1.1, h⟩⟩
  simp only [this]

/-- the call returns two new slices that hold n numbers -/
def RetLL (n : Nat) (f f' : Nat → Int) (w : World) : Ending → World → Prop := fun e w' => ∃ A c A' c', e = .returned (.tuple #[.slice A n c, .slice A' n c']) ∧ OwnF w' w.heap.size A c n f ∧ OwnF w' w.heap.size A' c' n f' ∧ Below w.heap.size w w'

set_option maxRecDepth 100000 in
set_option maxHeartbeats 4000000 in
theorem r12build_any (A : Option Addr) (n : Nat) (l : List (Int × Int)) (c : Nat) (w : World) (hr : RP w A l) (hv : Vld n l) :
    Calls Tryd.prog 76 #[.agg #[.int .i64 (n : Int), .slice A l.length c]] w (RetLL n (grL n l) (grR n l) w) := by
  have hn := hv.1.1; have hlen := hv.1.2.1
  have hgl : nGl n l = l := by unfold nGl; rw [hv.valE]; rfl
  have Hgl := Lib.hid hgl
  clear hgl
  go_enter Tryd.func76, Tryd.ntmps76
  go_wp2_with fail
  obtain ⟨W0, hW, c0, c1, hb0, hlt0⟩ := boxed w 27 (.int .i64 (n : Int)) (.slice A l.length c)
  have k0 : Blk W0 w.heap.size 27 #[.int .i64 (n : Int), .slice A l.length c] := by rw [← hW]; exact Blk.new w _ _
  rw [hW]
  clear hW c0 c1
  obtain ⟨B, hB⟩ : ∃ B, w.heap.size + 1 = B := ⟨_, rfl⟩
  have hBW : B ≤ W0.heap.size := by omega
  have hwB : w.heap.size < B := by omega
  have HB := Lib.hid hB
  clear hB hlt0
  go_loopw [4, 5, 6] (fun v1 v2 i wr => ∃ (k : Nat), k ≤ n ∧ i = .int .i64 k ∧ OwnI wr B v1 (lst k fun _ => 3) ∧ OwnI wr B v2 (lst k fun _ => 0) ∧ Far v1 v2 ∧ Blk wr w.heap.size 27 #[.int .i64 (n : Int), .slice A l.length c] ∧ B ≤ wr.heap.size ∧ Below w.heap.size w wr) (fun _ _ i _ => n - (intOf i).toNat)
  case atStart => exact ⟨0, Nat.zero_le _, rfl, OwnI.nil _ _, OwnI.nil _ _, Far.nil _, k0, hBW, hb0⟩
  case round =>
    clear k0 hb0 hBW
    obtain ⟨k, hk, rfl, hv1, hv2, hfar, kb, hBw, hbw⟩ := hrel
    have Hv1 := Lib.hid hv1; have Hv2 := Lib.hid hv2; have Hfar := Lib.hid hfar
    clear hv1 hv2 hfar
    obtain ⟨d0, d1, _, _⟩ := kb.two
    by_cases hkn : k < n
    case pos =>
      have hkl : (lst k fun _ => (3 : Int)).length ≤ 1000000 := by rw [lst_length]; omega
      have hkl2 : (lst k fun _ => (0 : Int)).length ≤ 1000000 := by rw [lst_length]; omega
      go_wp2_with (first | (at_builtin; refine wpList_appI2 (by rfl) (.tmp 23) (.tmp 24) (by rfl) wr B _ _ 3 Hv1.out (by rfl) (by rfl) rfl hkl hBw ?_; intro u1 w3 ho3 hb3 hg3 hl3; have kb3 := kb.append Hv1.out hg3 hwB; have hk3 := Lib.hid (Hv2.out.keep hg3 Hfar.out); have hf3 := Lib.hid (Hfar.out.appended Hv2.out hl3); have hB3 := Nat.le_trans hBw hb3.size; have Ho3 := Lib.hid ho3; clear ho3) | (at_builtin; refine wpList_appI2 (by rfl) (.tmp 26) (.tmp 27) (by rfl) w3 B _ _ 0 hk3.out (by rfl) (by rfl) rfl hkl2 hB3 ?_; intro u2 w4 ho4 hb4 hg4 hl4))
      go_roundw
      case rel =>
        refine ⟨k + 1, by omega, by go_num, ?_, ?_, ?_, kb3.append hk3.out hg4 hwB, Nat.le_trans hB3 hb4.size, hbw.trans ((hb3.trans hb4).mono (by omega))⟩
        · rw [lst_succ]; exact Ho3.out.keep hg4 hf3.out.symm
        · rw [lst_succ]; exact ho4
        · exact (hf3.out.symm.appended Ho3.out hl4).symm
      case measure => simp [intOf]; omega
    case neg =>
    obtain rfl : n = k := by omega
    obtain ⟨A1, c1, rfl, _, _⟩ := Hv1.out.form
    obtain ⟨A2, c2, rfl, _, _⟩ := Hv2.out.form
    have hv1 := Hv1.out; have hv2 := Hv2.out; have hfar := Hfar.out
    rw [lst_length] at hv1 hv2 hfar
    rw [lst_length] at hfar
    rw [lst_length, lst_length]
    have hst : GC w n A l.length c A1 c1 A2 c2 (stL n l 0) (stR n l 0) wr := ⟨kb, by rw [HB.out]; exact hv1, by rw [HB.out]; exact hv2, hfar, hbw⟩
    go_wp2_with fail
    clear hv1 hv2 hfar Hv1 Hv2 Hfar kb hbw hBw d0 d1 hkn hk
    go_loopw [7] (fun r wr => ∃ (k : Nat), r = .int .i64 ((k : Int) + 1) ∧ (∀ p, p < k → ¬ restB n l (stL n l p)) ∧ GC w n A l.length c A1 c1 A2 c2 (stL n l k) (stR n l k) wr) (fun r _ => n + 2 - (intOf r).toNat)
    case atStart => exact ⟨0, rfl, fun p hp => absurd hp (by omega), hst⟩
    case round =>
      clear hst
      obtain ⟨k, rfl, hpre, hst⟩ := hrel
      have hkn : k ≤ n := round_le hv.1 hpre
      have Hpre := Lib.hid hpre
      have hR0 : ∀ i, stR n l k i < (k : Int) + 1 := fun i => by have := (stR_le (n := n) (l := l) k i).2; omega
      have HR0 := Lib.hid hR0
      obtain ⟨L0, hL0⟩ : ∃ L0, stL n l k = L0 := ⟨_, rfl⟩
      obtain ⟨R0, hR0'⟩ : ∃ R0, stR n l k = R0 := ⟨_, rfl⟩
      rw [hL0, hR0'] at hst
      have HL0 := Lib.hid hL0; have HR0' := Lib.hid hR0'
      clear hpre hR0 hL0 hR0'
      obtain ⟨wo, hwo⟩ : ∃ wo, wo = wr := ⟨_, rfl⟩
      subst hwo
      have hnil := hst.lab.nil
      have hri := hst.lab.ri
      have Hnil := Lib.hid hnil; have Hri := Lib.hid hri
      clear hnil hri
      go_wp2_with (at_builtin; refine wpList_appIs (by rfl) _ _ (by rfl) _ wo.heap.size _ [] A1 (lst n L0) c1 (own_empty wo) (Hri.out.below (newB _ _)) Hnil.out (by rfl) (by rw [lst_length]; rfl) (by rw [lst_length]; simp; omega) (by simp) ?_; intro v9 w3 hown9 hb9 hg9)
      rw [List.nil_append] at hown9
      obtain ⟨A9, c9, rfl, _, _⟩ := hown9.form
      have h9 : OwnF w3 wo.heap.size A9 c9 n L0 := by
        have := hown9; rw [lst_length] at this; exact this
      have hb93 : Below wo.heap.size wo w3 := (newB wo _).trans hb9
      have hst3 := hst.below hb93
      have hold1 : ∀ g, (Value.slice A1 n c1).ownBlock = some g → g < wo.heap.size := fun g hg => OwnI.old hst.lab hg
      have hold2 : ∀ g, (Value.slice A2 n c2).ownBlock = some g → g < wo.heap.size := fun g hg => OwnI.old hst.rnk hg
      rw [lst_length]
      have h0L : ∀ (x : Int) (F : Nat → Int), preL n l L0 x F 0 = F := fun x F => by funext i; simp [preL]
      have hs0 : GC w n A l.length c A1 c1 A2 c2 (preL n l L0 1 L0 0) (preL n l L0 ((k : Int) + 1) R0 0) w3 := by rw [h0L, h0L]; exact hst3
      have Hold1 := Lib.hid hold1; have Hold2 := Lib.hid hold2; have H9 := Lib.hid h9
      clear hb9 hg9 hown9 hb93 hst3 hst hold1 hold2 h0L h9 Hri Hnil
      generalize wo.heap.size = B9 at *
      go_loopw [8, 10] (fun ch i wr => ∃ (j : Nat), j ≤ n ∧ i = .int .i64 j ∧ ch = .bool (chB n l L0 j) ∧ OwnF wr B9 A9 c9 n L0 ∧ GC w n A l.length c A1 c1 A2 c2 (preL n l L0 1 L0 j) (preL n l L0 ((k : Int) + 1) R0 j) wr) (fun _ i _ => n - (intOf i).toNat)
      case atStart => exact ⟨0, Nat.zero_le _, rfl, rfl, H9.out, hs0⟩
      case round =>
        clear hs0 H9
        obtain ⟨j, hj, rfl, rfl, h9, hst⟩ := hrel
        have H9 := Lib.hid h9
        clear h9
        obtain ⟨d0, d1, _, _⟩ := hst.box.two
        by_cases hjn : j < n
        case pos =>
          obtain ⟨g1, rfl, _, _, hf1⟩ := hst.lab.pos (by omega)
          obtain ⟨g2, rfl, _, _, hf2⟩ := hst.rnk.pos (by omega)
          obtain ⟨g9, rfl, hg9, _, _⟩ := H9.out.pos (by omega)
          have hc9 := H9.out.cell hjn
          have hn1 := Hold1.out g1 rfl
          have hn2 := Hold2.out g2 rfl
          go_wp2_with fail
          refine (r10Attackers_any A n l c j wr (hr.below hst.bel) hlen).mono ?_
          rintro e w5 ⟨A5, c5, rfl, _, hri5, _, hb5⟩
          rw [Hgl.out] at hri5 ⊢
          have hst5 := hst.below hb5
          have h95 := H9.out.below hb5
          have hal := attackersL_len l j
          have hatn : ∀ x ∈ attackersL l j, ∃ a : Nat, x = a ∧ a < n := fun x hx => by obtain ⟨a, h1, h2, _⟩ := attacker_nat hv.1 hx; exact ⟨a, h1, h2⟩
          have H95 := Lib.hid h95; have Hatn := Lib.hid hatn; have Hst5 := Lib.hid hst5
          clear hst hb5 H9 hc9 h95 hatn d0 d1 hst5 hf1 hf2
          go_wp2_with fail
          go_loop [11, 49] (fun fr i => ∃ (s : Nat), s ≤ (attackersL l j).length ∧ i = .int .i64 s ∧ fr = .bool (frS l L0 j s)) (fun _ i => (attackersL l j).length - (intOf i).toNat)
          case atStart => exact ⟨0, Nat.zero_le _, rfl, by rw [frS_zero]⟩
          case round =>
            obtain ⟨s, hs, rfl, rfl⟩ := hrel
            by_cases hsl : s < (attackersL l j).length
            case pos =>
              obtain ⟨b, o, rfl, hc5⟩ := hri5.at_ hsl
              obtain ⟨a, ha, han⟩ := Hatn.out _ (List.getElem_mem hsl)
              rw [ha] at hc5
              have Hs := Lib.hid (frS_succ (L := L0) hsl ha)
              have hca := H95.out.cell han
              clear ha
              cases hfr : frS l L0 j s
              · have Hfr := Lib.hid hfr
                clear hfr
                go_wp2_with fail
                go_round
                case rel => exact ⟨s + 1, by omega, by go_num, by rw [Hs.out, Hfr.out]; rfl⟩
                case measure => simp [intOf]; omega
              · have Hfr := Lib.hid hfr
                clear hfr
                go_wp2_with fail
                go_round
                case rel => exact ⟨s + 1, by omega, by go_num, by rw [Hs.out, Hfr.out]; rfl⟩
                case measure => simp [intOf]; omega
            case neg =>
            rw [frS_all hjn hsl]
            cases hfb : frB n l L0 j
            · have Hm := Lib.hid (preL_miss (x := 1) (F := L0) hfb); have Hm2 := Lib.hid (preL_miss (x := (k : Int) + 1) (F := R0) hfb)
              have Hch := Lib.hid (chB_succ n l L0 j)
              have Hfb := Lib.hid hfb
              clear hfb
              go_wp2_with fail
              go_roundw
              case rel => exact ⟨j + 1, by omega, by go_num, by rw [Hch.out, Hfb.out, Bool.or_false], H95.out, by rw [Hm.out, Hm2.out]; exact Hst5.out⟩
              case measure => simp [intOf]; omega
            · have Hm := Lib.hid (preL_hit (x := 1) (F := L0) hfb); have Hm2 := Lib.hid (preL_hit (x := (k : Int) + 1) (F := R0) hfb)
              have Hch := Lib.hid (chB_succ n l L0 j)
              have Hfb := Lib.hid hfb
              clear hfb
              have hst5 := Hst5.out
              have hl1 := hst5.lab.cell hjn
              have hst6 := hst5.setL hjn 1
              have hl2 := hst6.rnk.cell hjn
              obtain ⟨_, e1, _, _, hf1⟩ := hst5.lab.pos (by omega)
              obtain ⟨_, e2, _, _, hf2⟩ := hst6.rnk.pos (by omega)
              injection e1 with e1; injection e1 with e1 _ _; subst e1
              injection e2 with e2; injection e2 with e2 _ _; subst e2
              have hf1 := hf1 j
              have hf2 := hf2 j
              have hst7 := hst6.setR hjn ((k : Int) + 1)
              have h96 := (H95.out.far (a := ⟨g1, j, none⟩) (fun e => by simp [Value.ownBlock] at e; omega) (.int .i64 1)).far (a := ⟨g2, j, none⟩) (fun e => by simp [Value.ownBlock] at e; omega) (.int .i64 ((k : Int) + 1))
              have Hst7 := Lib.hid hst7; have H96 := Lib.hid h96
              clear hst5 hst6 hst7 h96
              go_wp2_with fail
              go_roundw
              case rel => exact ⟨j + 1, by omega, by go_num, by rw [Hch.out, Hfb.out, Bool.or_true], H96.out, by rw [Hm.out, Hm2.out]; exact Hst7.out⟩
              case measure => simp [intOf]; omega
        case neg =>
        obtain rfl : n = j := by omega
        go_wp2_with fail
        have e1 : preL n l L0 1 L0 n = midL n l L0 := preL_full n l L0 1 L0
        have e2 : preL n l L0 ((k : Int) + 1) R0 n = midR n l L0 ((k : Int) + 1) R0 := preL_full n l L0 _ R0
        rw [e1, e2] at hst
        have hcur : CurI l (midL n l L0) (midR n l L0 ((k : Int) + 1) R0) ((k : Int) + 1) (queL n l L0) (midL n l L0) (midR n l L0 ((k : Int) + 1) R0) := fun i => .inl ⟨rfl, rfl⟩
        have Hcur := Lib.hid hcur
        clear e1 e2 hcur H9 d0 d1
        go_loopw [14] (fun i wr => ∃ (j : Nat) (L R : Nat → Int), j ≤ n ∧ i = .int .i64 j ∧ GC w n A l.length c A1 c1 A2 c2 L R wr ∧ CurI l (midL n l L0) (midR n l L0 ((k : Int) + 1) R0) ((k : Int) + 1) (queL n l L0) L R ∧ ∀ x ∈ queL n l L0, ∀ i : Nat, i < j → (x, (i : Int)) ∈ l → L i ≠ 3) (fun i _ => n - (intOf i).toNat)
        case atStart => exact ⟨0, _, _, Nat.zero_le _, rfl, hst, Hcur.out, fun _ _ _ h => absurd h (by omega)⟩
        case round =>
          clear hst Hcur
          obtain ⟨j, L, R, hj, rfl, hst, hcur, hdone⟩ := hrel
          have Hcur := Lib.hid hcur; have Hdone := Lib.hid hdone
          clear hcur hdone
          obtain ⟨d0, d1, _, _⟩ := hst.box.two
          by_cases hjn2 : j < n
          case neg =>
            have hd : ∀ x ∈ queL n l L0, ∀ i : Nat, (x, (i : Int)) ∈ l → L i ≠ 3 := fun x hx i hi => Hdone.out x hx i (by have := (hv.1.2.2 _ hi).2.2.2; simp at this; omega) hi
            obtain ⟨e1, e2⟩ := round_endL hv (queL_que n l L0) Hcur.out hd
            rw [e1, e2] at hst
            clear e1 e2 hd
            cases hch : chB n l L0 n
            · have hrest := chB_rest hch
              have hf := rest_final hv.1 (by rw [HL0.out]; exact hrest : restB n l (stL n l k))
              have hnx := rest_next hv.1 hrest
              rw [hnx.1, hnx.2] at hst
              rw [HL0.out, HR0'.out] at hf
              rw [hf.1, hf.2] at hst
              have Hst := Lib.hid hst
              clear hst hf hnx hrest hch
              go_wp2_with fail
              go_ret2
              exact ⟨A1, c1, A2, c2, rfl, OwnI.mono Hst.out.lab (Nat.le_succ _), OwnI.mono Hst.out.rnk (Nat.le_succ _), Hst.out.bel⟩
            · have hrest := Lib.hid (chB_some hch)
              clear hch
              have Hst := Lib.hid hst
              clear hst
              go_wp2_with fail
              go_roundw
              case rel =>
                refine ⟨k + 1, ivl (by omega), fun p hp => ?_, ?_⟩
                · by_cases e : p = k
                  · subst e; rw [HL0.out]; exact hrest.out
                  · exact Hpre.out p (by omega)
                · have h5 := Hst.out
                  rw [← HL0.out, ← HR0'.out] at h5
                  exact h5
              case measure => simp [intOf]; omega
          case pos =>
          obtain ⟨g1, rfl, _, hlt1, _⟩ := hst.lab.pos (by omega)
          obtain ⟨g2, rfl, _, hlt2, _⟩ := hst.rnk.pos (by omega)
          go_wp2_with fail
          refine (r10Attackers_any A n l c j wr (hr.below hst.bel) hlen).mono ?_
          rintro e w5 ⟨A5, c5, rfl, hoa, _, _, hb5⟩
          rw [Hgl.out] at hoa ⊢
          have hst5 := hst.below hb5
          have hal := attackersL_len l j
          have hatn : ∀ x ∈ attackersL l j, ∃ a : Nat, x = a ∧ a < n := fun x hx => by obtain ⟨a, h1, h2, _⟩ := attacker_nat hv.1 hx; exact ⟨a, h1, h2⟩
          have Hatn := Lib.hid hatn
          clear hst hb5 hatn d0 d1
          generalize wr.heap.size = B5 at *
          have Hdn := Hdone
          clear Hdone
          go_wp2_with fail
          go_loopw [80] (fun i wr => ∃ (s : Nat) (L R : Nat → Int), s ≤ (attackersL l j).length ∧ i = .int .i64 s ∧ OwnI wr B5 (.slice A5 (attackersL l j).length c5) (attackersL l j) ∧ GC w n A l.length c (some ⟨g1, 0, none⟩) c1 (some ⟨g2, 0, none⟩) c2 L R wr ∧ CurI l (midL n l L0) (midR n l L0 ((k : Int) + 1) R0) ((k : Int) + 1) (queL n l L0) L R ∧ (∀ x ∈ queL n l L0, ∀ i : Nat, i < j → (x, (i : Int)) ∈ l → L i ≠ 3) ∧ ∀ x ∈ (attackersL l j).take s, x ∈ queL n l L0 → L j ≠ 3) (fun i _ => (attackersL l j).length - (intOf i).toNat)
          case atStart => exact ⟨0, L, R, Nat.zero_le _, rfl, hoa, hst5, Hcur.out, Hdn.out, fun x hx => by simp at hx⟩
          case round =>
            clear hst5 hoa Hcur Hdn
            obtain ⟨s, L, R, hs, rfl, hoa, hst, hcur, hdone, hdj⟩ := hrel
            have Hcur := Lib.hid hcur; have Hdone := Lib.hid hdone; have Hoa := Lib.hid hoa; have Hdj := Lib.hid hdj
            clear hcur hdone hoa hdj
            by_cases hsl : s < (attackersL l j).length
            case neg =>
              go_wp2_with fail
              go_roundw
              case rel =>
                refine ⟨j + 1, L, R, by omega, by go_num, hst, Hcur.out, fun x hx i hi hxi => ?_⟩
                by_cases e : i = j
                · subst e
                  have := Hdj.out
                  rw [List.take_of_length_le (by omega)] at this
                  exact this x (mem_attackersL.2 hxi) hx
                · exact Hdone.out x hx i (by omega) hxi
              case measure => simp [intOf]; omega
            case pos =>
            obtain ⟨b, o, rfl, hc5⟩ := Hoa.out.ri.at_ hsl
            obtain ⟨a, ha, han⟩ := Hatn.out _ (List.getElem_mem hsl)
            rw [ha] at hc5
            have Ha := Lib.hid ha
            clear ha
            have hLj := hst.lab.cell hjn2
            have hLa := hst.lab.cell han
            have hRa := hst.rnk.cell han
            have hctest := Lib.hid (cur_test (fun i => by have := HR0.out i; rw [← HR0'.out]; exact this) Hcur.out a)
            have hstay : ¬ (L j = 3 ∧ L a = 1 ∧ R a = (k : Int) + 1) → ∀ x ∈ (attackersL l j).take (s + 1), x ∈ queL n l L0 → L j ≠ 3 := fun hno x hx hq => by
              rw [List.take_succ_eq_append_getElem hsl, List.mem_append, List.mem_singleton] at hx
              rcases hx with hx | hx
              · exact Hdj.out x hx hq
              · rw [hx, Ha.out] at hq
                intro h3
                exact hno ⟨h3, hctest.out.2 hq⟩
            have Hstay := Lib.hid hstay
            clear hstay
            by_cases h3 : L j = 3
            case neg =>
              have hd1 : (L j == 3) = false := by simpa using h3
              have Hs := Lib.hid (Hstay.out (fun h => h3 h.1))
              clear h3
              go_wp2_with fail
              go_roundw
              case rel => exact ⟨s + 1, L, R, by omega, by go_num, Hoa.out, hst, Hcur.out, Hdone.out, Hs.out⟩
              case measure => simp [intOf]; omega
            case pos =>
            rw [h3] at hLj
            by_cases h1 : L a = 1
            case neg =>
              have hd1 : (L a == 1) = false := by simpa using h1
              have Hs := Lib.hid (Hstay.out (fun h => h1 h.2.1))
              clear h1 h3
              go_wp2_with fail
              go_roundw
              case rel => exact ⟨s + 1, L, R, by omega, by go_num, Hoa.out, hst, Hcur.out, Hdone.out, Hs.out⟩
              case measure => simp [intOf]; omega
            case pos =>
            rw [h1] at hLa
            by_cases h2 : R a = (k : Int) + 1
            case neg =>
              have hd1 : (R a == (k : Int) + 1) = false := by simpa using h2
              have Hs := Lib.hid (Hstay.out (fun h => h2 h.2.2))
              clear h1 h2 h3
              go_wp2_with fail
              go_roundw
              case rel => exact ⟨s + 1, L, R, by omega, by go_num, Hoa.out, hst, Hcur.out, Hdone.out, Hs.out⟩
              case measure => simp [intOf]; omega
            case pos =>
            rw [h2] at hRa
            have haq : (a : Int) ∈ queL n l L0 := hctest.out.1 ⟨h1, h2⟩
            have hatt : ((a : Int), (j : Int)) ∈ l := by rw [← Ha.out]; exact mem_attackersL.1 (List.getElem_mem hsl)
            have hcur2 := cur_set Hcur.out haq hatt h3
            have hst6 := hst.setL hjn2 2
            have hl2 := hst6.rnk.cell hjn2
            obtain ⟨_, e1, _, _, hf1⟩ := hst.lab.pos (by omega)
            obtain ⟨_, e2, _, _, hf2⟩ := hst6.rnk.pos (by omega)
            injection e1 with e1; injection e1 with e1 _ _; subst e1
            injection e2 with e2; injection e2 with e2 _ _; subst e2
            have hf1 := hf1 j
            have hf2 := hf2 j
            have hst7 := hst6.setR hjn2 ((k : Int) + 1)
            have hoa2 := (Hoa.out.farB (a := ⟨g1, j, none⟩) hlt1 (.int .i64 2)).farB (a := ⟨g2, j, none⟩) hlt2 (.int .i64 ((k : Int) + 1))
            have hd2 : ∀ x ∈ queL n l L0, ∀ i : Nat, i < j → (x, (i : Int)) ∈ l → upd L j 2 i ≠ 3 := fun x hx i hi hxi => by rw [upd_ne (by omega)]; exact Hdone.out x hx i hi hxi
            have hd3 : ∀ x ∈ (attackersL l j).take (s + 1), x ∈ queL n l L0 → upd L j 2 j ≠ 3 := fun _ _ _ => by rw [upd_same]; omega
            have Hst7 := Lib.hid hst7; have Hoa2 := Lib.hid hoa2; have Hd2 := Lib.hid hd2; have Hd3 := Lib.hid hd3; have Hcur2 := Lib.hid hcur2
            clear hst hst6 hst7 hoa2 hd2 hd3 hcur2 h1 h2 h3 haq hatt
            go_wp2_with fail
            go_roundw
            case rel => exact ⟨s + 1, _, _, by omega, by go_num, Hoa2.out, Hst7.out, Hcur2.out, Hd2.out, Hd3.out⟩
            case measure => simp [intOf]; omega
end Go.Proofs.YtiljbfeipfdmdaaDoor
