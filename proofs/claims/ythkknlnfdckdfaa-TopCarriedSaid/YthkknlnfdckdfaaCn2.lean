/- receive: a packet is given to the receiver. -/
import Derived.Test.YthkknlnfdckdfaaCn1
namespace Go.Proofs.Ythkknlnfdckdfaa
open Go.ChangeShapes Go.WideShapes Go.ChangeAt Go.RowKit

def lenAt (w : World) (q : Nat) : Nat := match w.cell? ⟨q, 4, none⟩ with
  | some (.slice _ n _) => n
  | _ => 0
def headB (hh : List Pk) (r : List Int) : Bool := match hh with
  | [] => false
  | p :: _ => p.2.1 == (r.length : Int)
theorem drain_stop {hh : List Pk} {r : List Int} (h : headB hh r = false) : drainF hh r = (r, hh) := by
  cases hh with
  | nil => rfl
  | cons p t =>
    have : ¬ p.2.1 = (r.length : Int) := beq_eq_false_iff_ne.1 h
    unfold drainF; rw [if_neg this]
theorem drain_go {hh : List Pk} {r : List Int} (h : headB hh r = true) : ∃ p t, hh = p :: t ∧ p.2.1 = (r.length : Int) ∧ drainF hh r = drainF t (r ++ [p.2.2]) := by
  cases hh with
  | nil => cases h
  | cons p t =>
    have : p.2.1 = (r.length : Int) := beq_iff_eq.1 h
    exact ⟨p, t, rfl, this, by conv => lhs; unfold drainF; rw [if_pos this]⟩
theorem held_tail {items r : List Int} {p : Pk} {t : List Pk} (h : HeldOk items (r.length : Int) (p :: t)) (hp : p.2.1 = (r.length : Int)) (hr : Pre items r) : Pre items (r ++ [p.2.2]) ∧ HeldOk items ((r ++ [p.2.2]).length : Int) t ∧ r.length < items.length := by
  have ha := h.asc
  unfold AscK at ha
  rw [List.pairwise_cons] at ha
  have h0 := h.inr p (by simp)
  have hl : r.length < items.length := by omega
  have hv : p.2.2 = itemAt items (r.length : Int) := by rw [h0.2.2, hp]
  have hlen : (r ++ [p.2.2]).length = r.length + 1 := by simp
  refine ⟨by rw [hv]; exact hr.snoc hl, ⟨ha.2, fun q hq => ?_⟩, hl⟩
  have := ha.1 q hq
  have := h.inr q (by simp [hq])
  rw [hlen]; exact ⟨by omega, this.2⟩
theorem goesIn_eq {c : Chn} {p : Pk} {i : Nat} {b : Bool} (hb : b = true ↔ i < c.held.length ∧ (pk c.held i).2.1 = p.2.1) (h1 : ∀ q ∈ c.held.take i, ltK p.2.1 q) (h2 : ∀ q ∈ c.held.drop i, ¬ ltK p.2.1 q) (ha : AscK c.held) : hasN c.held p.2.1 = b := by
  have e : c.held = c.held.take i ++ c.held.drop i := (List.take_append_drop i c.held).symm
  by_cases hh : i < c.held.length ∧ (pk c.held i).2.1 = p.2.1
  · rw [hb.2 hh]
    unfold hasN
    rw [List.any_eq_true]
    exact ⟨_, pk_mem hh.1, beq_iff_eq.2 hh.2⟩
  · have : b = false := by rw [← Bool.not_eq_true]; exact fun e => hh (hb.1 e)
    rw [this, hasN_false]
    intro q hq hqe
    rw [e, List.mem_append] at hq
    rcases hq with hq | hq
    · have := h1 q hq; unfold ltK at this; omega
    · have hil : i < c.held.length := by
        rcases Nat.lt_or_ge i c.held.length with h | h
        · exact h
        · rw [List.drop_of_length_le h] at hq; cases hq
      rw [List.drop_eq_getElem_cons hil, List.mem_cons] at hq
      rw [← pk_at hil] at hq
      have h3 := h2 (pk c.held i) (by rw [pk_at hil, List.drop_eq_getElem_cons hil]; exact List.mem_cons_self ..)
      unfold ltK at h3
      rcases hq with rfl | hq
      · exact hh ⟨hil, hqe⟩
      · unfold AscK at ha
        rw [e, List.pairwise_append, List.drop_eq_getElem_cons hil, List.pairwise_cons, ← pk_at hil] at ha
        have := ha.2.1.1 q hq
        exact hh ⟨hil, by omega⟩
theorem ins_eq {l : List Pk} {p : Pk} {i : Nat} (h1 : ∀ q ∈ l.take i, ltK p.2.1 q) (h2 : ∀ q ∈ l.drop i, ¬ ltK p.2.1 q) : l.take i ++ p :: l.drop i = insF l p := by
  have e : l = l.take i ++ l.drop i := (List.take_append_drop i l).symm
  unfold insF
  conv => rhs; rw [e]
  rw [List.filter_append, List.filter_append]
  have f1 : (l.take i).filter (fun q => decide (q.2.1 < p.2.1)) = l.take i := List.filter_eq_self.2 fun q hq => decide_eq_true (h1 q hq)
  have f2 : (l.drop i).filter (fun q => decide (q.2.1 < p.2.1)) = [] := List.filter_eq_nil_iff.2 fun q hq => by rw [decide_eq_true_iff]; exact h2 q hq
  have f3 : (l.take i).filter (fun q => !decide (q.2.1 < p.2.1)) = [] := List.filter_eq_nil_iff.2 fun q hq => by rw [Bool.not_eq_true', Bool.not_eq_false, decide_eq_true_iff]; exact h1 q hq
  have f4 : (l.drop i).filter (fun q => !decide (q.2.1 < p.2.1)) = l.drop i := List.filter_eq_self.2 fun q hq => by rw [Bool.not_eq_true', decide_eq_false_iff_not]; exact h2 q hq
  rw [f1, f2, f3, f4]; simp
theorem bs_ex {l : List Pk} {n : Int} (ha : AscK l) : ∃ v : Value, ∃ (i : Nat) (b : Bool), v = .tuple #[.int .i64 (i : Int), .bool b] ∧ i ≤ l.length ∧ (∀ q ∈ l.take i, ltK n q) ∧ (∀ q ∈ l.drop i, ¬ ltK n q) ∧ (b = true ↔ i < l.length ∧ (pk l i).2.1 = n) := by
  have key : ∀ (l : List Pk), AscK l → ∃ i, i ≤ l.length ∧ (∀ q ∈ l.take i, ltK n q) ∧ ∀ q ∈ l.drop i, ¬ ltK n q := fun l => by
    induction l with
    | nil => intro _; exact ⟨0, Nat.le_refl _, by simp, by simp⟩
    | cons p l ih =>
      intro ha
      unfold AscK at ha
      rw [List.pairwise_cons] at ha
      by_cases hp : ltK n p
      · obtain ⟨i, h1, h2, h3⟩ := ih ha.2
        refine ⟨i + 1, by simpa using h1, fun q hq => ?_, fun q hq => h3 q (by simpa using hq)⟩
        rw [List.take_succ_cons, List.mem_cons] at hq
        rcases hq with rfl | hq
        · exact hp
        · exact h2 q hq
      · refine ⟨0, Nat.zero_le _, by simp, fun q hq => ?_⟩
        rw [List.drop_zero, List.mem_cons] at hq
        rcases hq with rfl | hq
        · exact hp
        · have := ha.1 q hq
          unfold ltK at *; omega
  obtain ⟨i, h1, h2, h3⟩ := key l ha
  exact ⟨_, i, decide (i < l.length ∧ (pk l i).2.1 = n), rfl, h1, h2, h3, decide_eq_true_iff⟩
set_option maxRecDepth 100000 in
set_option maxHeartbeats 8000000 in
theorem recv_any (B q : Nat) (c : Chn) (p : Pk) (iv rv hv fv : Value) (w : World) (h : LineAt w B q c iv rv hv fv) (hc : CI c) (hp : 0 ≤ p.2.1 ∧ p.2.1 < (c.items.length : Int) ∧ p.2.2 = itemAt c.items p.2.1) (hB : B ≤ w.heap.size) :
    Calls Try.prog 54 #[.pointer (some ⟨q, 0, none⟩), .agg #[.bool p.1, .int .i64 p.2.1, .int .i64 p.2.2]] w (RetLn B q (recvF c p) (.tuple #[]) w) := by
  have hw0 := hc.w0; have hw1 := hc.w1; have h60 := hc.n60; have hpl := hc.pre.1; have hfl := hc.fl
  have hhl : c.held.length ≤ 60 := hc.hd.len (by omega) h60
  have hHl : (recvH c p).length ≤ 61 := by have := (recvH_ok hc hp).len (by omega) h60; omega
  have hasc := hc.hd.asc
  have hinr : ∀ q ∈ c.held, 0 ≤ q.2.1 ∧ q.2.1 ≤ 100000 := fun q hq => by have := hc.hd.inr q hq; omega
  obtain ⟨H, hcap, rfl, hrk, hHn, hHc⟩ := h.ho.form
  have hbs := fun W hr => bsearchK_any H c.held hcap p.2.1 W hr (by omega) hasc hinr hp.1 (by omega)
  obtain ⟨R, rcap, rfl, _, _⟩ := OwnI.form2 h.ro
  have hgoes : ∀ (i : Nat) (b : Bool), (b = true ↔ i < c.held.length ∧ (pk c.held i).2.1 = p.2.1) → (∀ q ∈ c.held.take i, ltK p.2.1 q) → (∀ q ∈ c.held.drop i, ¬ ltK p.2.1 q) → goesIn c p = (decide ((c.rc.length : Int) ≤ p.2.1) && (decide (p.2.1 < (c.rc.length : Int) + c.win) && !b)) := fun i b hb h1 h2 => by
    unfold goesIn; rw [goesIn_eq hb h1 h2 hasc]
  have hins : ∀ (i : Nat), (∀ q ∈ c.held.take i, ltK p.2.1 q) → (∀ q ∈ c.held.drop i, ¬ ltK p.2.1 q) → c.held.take i ++ p :: c.held.drop i = insF c.held p := fun i h1 h2 => ins_eq h1 h2
  have hrest : Pre c.items c.rc ∧ HeldOk c.items (c.rc.length : Int) (recvH c p) := ⟨hc.pre, recvH_ok hc hp⟩
  have Hbs := Lib.hid hbs; have Hh := Lib.hid h; have Hgo := Lib.hid hgoes; have Hins := Lib.hid hins; have Hrest := Lib.hid hrest; have Hrk := Lib.hid hrk
  have hwr : IntKind.i64.wrap ((c.rc.length : Int) + c.win) = (c.rc.length : Int) + c.win := by rw [IntKind.wrap_i64]; omega
  have hp0 := hp.1; have hp1 := hp.2.1
  have Hex := Lib.hid (bs_ex (n := p.2.1) hasc)
  clear hbs h hgoes hins hrest hc hrk hHn hp
  obtain ⟨a, x, y⟩ := p
  simp only at *
  go_enter Try.func54, Try.ntmps54
  go_upto_region 1 with fail
  obtain ⟨W0, hW, k0, hb0, hs0⟩ := boxedA w 94 #[.bool a, .int .i64 x, .int .i64 y]
  rw [hW]
  have Hh0 := Lib.hid (Hh.out.below hb0)
  have Hrk0 := Lib.hid (Hrk.out.below hb0)
  obtain ⟨d0, d1, d2, d3, d4, d5⟩ := dgC Hh0.out.blk
  have p0 : W0.cell? ⟨w.heap.size, 0, none⟩ = some (.bool a) := k0.cell 0
  have p1 : W0.cell? ⟨w.heap.size, 1, none⟩ = some (.int .i64 x) := k0.cell 1
  have p2 : W0.cell? ⟨w.heap.size, 2, none⟩ = some (.int .i64 y) := k0.cell 2
  have hq0 := Hh0.out.blk.lt
  have K0 := Lib.hid k0
  clear hW k0 Hrk
  go_upto_region 2 with fail
  refine wp_region_textZ [7, 11, 12] (fun w' => Below W0.heap.size W0 w') (fun _ => True) (by kernel_rfl) (by kernel_rfl) (by kernel_rfl) (by kernel_rfl) (Below.refl _ _).drew trivial ?_
  repeat (first
    | (refine TxtZL.skip (by rfl) ?_; simp only [Act.put, List.setIfInBounds_toArray, List.set_cons_zero, List.set_cons_succ])
    | (refine TxtZL.take (by rfl) (by rfl) ?_; apply Exists.intro; refine ⟨fun w1 hS1 => ?_, ?_⟩; (focus ((have g4 := (hS1.cell (lt_of_cell d4)).trans d4; have g1 := (hS1.cell (lt_of_cell p1)).trans p1); go_simp; with_reducible rfl)); simp only [Act.put, List.setIfInBounds_toArray, List.set_cons_zero, List.set_cons_succ])
    | (refine TxtZL.takeE' (by rfl) (by rfl) ?_; apply Exists.intro; refine ⟨fun w1 hS1 => ?_, ?_⟩; (focus ((have g4 := (hS1.cell (lt_of_cell d4)).trans d4; have g1 := (hS1.cell (lt_of_cell p1)).trans p1); go_simp; with_reducible rfl)); simp only [Act.put, List.setIfInBounds_toArray, List.set_cons_zero, List.set_cons_succ]))
  refine TxtZL.call (f := 68) (args := #[.slice H c.held.length hcap, .int .i64 x, .func (.func 69) #[] #[]]) (fun v => ∃ (i : Nat) (b : Bool), v = .tuple #[.int .i64 (i : Int), .bool b] ∧ i ≤ c.held.length ∧ (∀ q ∈ c.held.take i, ltK x q) ∧ (∀ q ∈ c.held.drop i, ¬ ltK x q) ∧ (b = true ↔ i < c.held.length ∧ (pk c.held i).2.1 = x)) (fun _ _ => True) (by rfl) (by rfl) Hex.out (fun w1 hS1 hJ1 => by go_simp) (fun w1 hS1 hJ1 => ?_) ?_
  · refine (Hbs.out w1 (Hrk0.out.below hS1)).mono ?_
    rintro e w' ⟨i, b, rfl, h1, h2, h3, h4, hb⟩
    exact ⟨_, rfl, hS1.trans (hb.mono hS1.size), ⟨i, b, rfl, h1, h2, h3, h4⟩, trivial⟩
  rintro v ⟨i, b, rfl, hi, h1, h2, h3⟩
  have hgo := Hgo.out i b h3 h1 h2
  have hins := Hins.out i h1 h2
  have Hgo2 := Lib.hid hgo; have Hins2 := Lib.hid hins
  clear hgo hins h1 h2 h3
  simp only [Act.put, List.setIfInBounds_toArray, List.set_cons_zero, List.set_cons_succ]
  repeat (first
    | (refine TxtZL.skip (by rfl) ?_; simp only [Act.put, List.setIfInBounds_toArray, List.set_cons_zero, List.set_cons_succ])
    | (refine TxtZL.take (by rfl) (by rfl) ?_; apply Exists.intro; refine ⟨fun w1 hS1 => ?_, ?_⟩; (focus (skip; go_simp; with_reducible rfl)); simp only [Act.put, List.setIfInBounds_toArray, List.set_cons_zero, List.set_cons_succ])
    | (refine TxtZL.takeE' (by rfl) (by rfl) ?_; apply Exists.intro; refine ⟨fun w1 hS1 => ?_, ?_⟩; (focus (skip; go_simp; with_reducible rfl)); simp only [Act.put, List.setIfInBounds_toArray, List.set_cons_zero, List.set_cons_succ]))
  refine TxtZL.eff (fun v => v = .bool b) (fun _ w' => Below W0.heap.size W0 w') (by rfl) (by rfl) ⟨_, rfl⟩ (fun w1 hS1 _ => Eff.value (by go_simp) ⟨hS1, rfl, hS1⟩) ?_
  rintro v rfl
  simp only [Act.put, List.setIfInBounds_toArray, List.set_cons_zero, List.set_cons_succ]
  refine TxtZL.nil (fun w1 hb1 => ?_)
  have Hh1 := Lib.hid (Hh0.out.below hb1)
  have K1 := Lib.hid (K0.out.below hb1 (by omega))
  have hs1 := hb1.size
  have Hb1 := Lib.hid (endB hb0 hb1)
  clear d0 d1 d2 d3 d4 d5 p0 p1 p2 hb1 hb0
  obtain ⟨d0, d1, d2, d3, d4, d5⟩ := dgC Hh1.out.blk
  have p0 : w1.cell? ⟨w.heap.size, 0, none⟩ = some (.bool a) := K1.out.cell 0
  have p1 : w1.cell? ⟨w.heap.size, 1, none⟩ = some (.int .i64 x) := K1.out.cell 1
  have p2 : w1.cell? ⟨w.heap.size, 2, none⟩ = some (.int .i64 y) := K1.out.cell 2
  obtain ⟨e1, he1⟩ : ∃ e1, decide ((c.rc.length : Int) ≤ x) = e1 := ⟨_, rfl⟩
  obtain ⟨e2, he2⟩ : ∃ e2, decide (x < (c.rc.length : Int) + c.win) = e2 := ⟨_, rfl⟩
  have hgo := Hgo2.out
  rw [he1, he2] at hgo
  clear Hgo2
  go_upto_region 3 with fail
  go_cut [43] (fun s43 wx => s43 = .bool (e1 && (e2 && !b)) ∧ Below w1.heap.size w1 wx)
  case first =>
    have Hgo := Lib.hid hgo
    clear hgo
    cases e1
    · go_quiet (fail)
      go_wp2_with fail
      go_meet
      exact ⟨rfl, below_drewN (Below.refl _ _) _⟩
    · cases e2
      · go_quiet (fail)
        go_wp2_with fail
        go_meet
        exact ⟨rfl, below_drewN (Below.refl _ _) _⟩
      · cases b
        · go_quiet (fail)
          go_wp2_with fail
          go_meet
          exact ⟨rfl, below_drewN (Below.refl _ _) _⟩
        · go_quiet (fail)
          go_wp2_with fail
          go_meet
          exact ⟨rfl, below_drewN (Below.refl _ _) _⟩
  obtain ⟨rfl, hbc⟩ := hcut
  have Hh2 := Lib.hid (Hh1.out.below hbc)
  have K2 := Lib.hid (K1.out.below hbc K1.out.lt)
  have Hb2 := Lib.hid (endB Hb1.out hbc)
  have hsc := hbc.size
  generalize (e1 && (e2 && !b)) = g at *
  clear he1 he2 Hh1 K1 Hb1 Hh0 K0 hs1 hs0 d0 d1 d2 d3 d4 d5 p0 p1 p2 hbc
  obtain ⟨d0, d1, d2, d3, d4, d5⟩ := dgC Hh2.out.blk
  have p0 : wc.cell? ⟨w.heap.size, 0, none⟩ = some (.bool a) := K2.out.cell 0
  have p1 : wc.cell? ⟨w.heap.size, 1, none⟩ = some (.int .i64 x) := K2.out.cell 1
  have p2 : wc.cell? ⟨w.heap.size, 2, none⟩ = some (.int .i64 y) := K2.out.cell 2
  have hqc := Hh2.out.blk.lt
  have hsw : w.heap.size < wc.heap.size := K2.out.lt
  have Hgo := Lib.hid hgo
  clear hgo
  go_upto_if 43 with fail
  go_cut [] (fun wx => ∃ hv2, LineAt wx B q { c with held := recvH c (a, x, y) } iv (.slice R c.rc.length rcap) hv2 fv ∧ Below B wc wx)
  case first =>
    cases g
    · have hH : recvH c (a, x, y) = c.held := by unfold recvH; rw [Hgo.out]; rfl
      go_wp2_with fail
      go_meet
      rw [hH]
      exact ⟨_, Hh2.out, Below.refl _ _⟩
    · have hH : recvH c (a, x, y) = insF c.held (a, x, y) := by unfold recvH; rw [Hgo.out]; rfl
      have HH := Lib.hid hH
      clear hH
      obtain ⟨H2, hH2⟩ : ∃ H2, insF c.held (a, x, y) = H2 := ⟨_, rfl⟩
      have HI := Lib.hid (Hins2.out.trans hH2)
      have HH2 := Lib.hid (HH.out.trans hH2)
      clear hH2 HH Hins2
      go_upto_region 4 with fail
      refine wp_region_textZ [8, 9, 13] (fun w' => Blk w' q 90 #[iv, .int .i64 c.win, .int .i64 c.base, .slice R c.rc.length rcap, .slice H c.held.length hcap, fv] ∧ Blk w' w.heap.size 94 #[.bool a, .int .i64 x, .int .i64 y]) (fun w' => Below wc.heap.size wc w') (by kernel_rfl) (by kernel_rfl) (by kernel_rfl) (by kernel_rfl) ⟨Hh2.out.blk, K2.out⟩ (Below.refl _ _).drew ?_
      repeat (first
        | (refine TxtZL.skip (by rfl) ?_; simp only [Act.put, List.setIfInBounds_toArray, List.set_cons_zero, List.set_cons_succ])
        | (refine TxtZL.take (by rfl) (by rfl) ?_; apply Exists.intro; refine ⟨fun w1 hS1 => ?_, ?_⟩; (focus ((obtain ⟨g0, g1, g2, g3, g4, g5⟩ := dgC hS1.1); (have x0 : w1.cell? ⟨w.heap.size, 0, none⟩ = some (.bool a) := hS1.2.cell 0); (have x1 : w1.cell? ⟨w.heap.size, 1, none⟩ = some (.int .i64 x) := hS1.2.cell 1); (have x2 : w1.cell? ⟨w.heap.size, 2, none⟩ = some (.int .i64 y) := hS1.2.cell 2); go_simp; with_reducible rfl)); simp only [Act.put, List.setIfInBounds_toArray, List.set_cons_zero, List.set_cons_succ])
        | (refine TxtZL.takeE' (by rfl) (by rfl) ?_; apply Exists.intro; refine ⟨fun w1 hS1 => ?_, ?_⟩; (focus ((obtain ⟨g0, g1, g2, g3, g4, g5⟩ := dgC hS1.1); (have x0 : w1.cell? ⟨w.heap.size, 0, none⟩ = some (.bool a) := hS1.2.cell 0); (have x1 : w1.cell? ⟨w.heap.size, 1, none⟩ = some (.int .i64 x) := hS1.2.cell 1); (have x2 : w1.cell? ⟨w.heap.size, 2, none⟩ = some (.int .i64 y) := hS1.2.cell 2); go_simp; with_reducible rfl)); simp only [Act.put, List.setIfInBounds_toArray, List.set_cons_zero, List.set_cons_succ]))
      refine TxtZL.eff (fun v => ∃ gv : Nat, v = .slice (some ⟨gv, 0, none⟩) 1 1) (fun v w' => LineAt w' B q c iv (.slice R c.rc.length rcap) (.slice H c.held.length hcap) fv ∧ Below wc.heap.size wc w' ∧ ∃ gv : Nat, v = .slice (some ⟨gv, 0, none⟩) 1 1 ∧ wc.heap.size ≤ gv ∧ Blk w' gv 94 #[.bool a, .int .i64 x, .int .i64 y]) (by rfl) (by rfl) ⟨_, 0, rfl⟩ (fun w2 hS2 hJ2 => ?_) ?_
      · have hl2 := Hh2.out.below hJ2
        exact Eff.value (w' := w2.alloc (.cells #[.bool a, .int .i64 x, .int .i64 y] 94)) (v := .slice (some ⟨w2.heap.size, 0, none⟩) 1 1) (by go_simp) ⟨⟨hS2.1.alloc _, hS2.2.alloc _⟩, ⟨_, rfl⟩, hl2.below (newB _ _), hJ2.trans ((newB _ _).mono hJ2.size), _, rfl, hJ2.size, Blk.new _ _ _⟩
      rintro v ⟨gv, rfl⟩
      simp only [Act.put, List.setIfInBounds_toArray, List.set_cons_zero, List.set_cons_succ]
      refine TxtZL.call (f := 70) (args := #[.slice H c.held.length hcap, .int .i64 (i : Int), .slice (some ⟨gv, 0, none⟩) 1 1]) (fun v => ∃ A' c', v = Value.slice A' H2.length c') (fun v w' => ∃ w2, LineAt w2 B q c iv (.slice R c.rc.length rcap) (.slice H c.held.length hcap) fv ∧ w2.grownBy w' (Value.slice H c.held.length hcap).ownBlock ∧ OwnK w' B v H2 ∧ (v.ownBlock = (Value.slice H c.held.length hcap).ownBlock ∨ ∀ k, v.ownBlock = some k → w2.heap.size ≤ k) ∧ Below B wc w') (by rfl) (by rfl) ⟨_, none, 0, rfl⟩ (fun w2 hS2 hJ2 => by go_simp) (fun w2 hS2 hJ2 => ?_) ?_
      · obtain ⟨hl2, hb2, gv', e, hge, hV⟩ := hJ2
        injection e with e _ _; injection e with e; injection e with e _; subst e
        have hB2 : B ≤ w2.heap.size := by have := hb2.size; omega
        have hlt2 : ∀ k, (Value.slice H c.held.length hcap).ownBlock = some k → B ≤ k ∧ k < wc.heap.size := Hh2.out.ho.lt
        have hlt3 : ∀ k, (Value.slice H c.held.length hcap).ownBlock = some k → k < w.heap.size := fun k hk => (Hh.out.ho.lt k hk).2
        refine (insertK_any H hcap i gv B c.held (a, x, y) w2 hl2.ho hi (by omega) hB2 hV (fun k hk => by have := (hlt2 k hk).2; omega)).mono ?_
        rintro e w' ⟨A', c', rfl, ho, hg, hlv⟩
        rw [HI.out] at ho hlv ⊢
        refine ⟨_, rfl, ⟨hl2.blk.grown hg (fun e => hl2.ho.ne hl2.blk (by decide) e.symm), hS2.2.grown hg (fun e => by have := hlt3 _ e.symm; omega)⟩, ⟨A', c', rfl⟩, w2, hl2, hg, ho, hlv, (hb2.mono (by omega)).trans ((Below.refl B w2).grown hg hB2 (fun k hk => (hlt2 k hk).1))⟩
      rintro v ⟨A', c', rfl⟩
      simp only [Act.put, List.setIfInBounds_toArray, List.set_cons_zero, List.set_cons_succ]
      repeat (first
        | (refine TxtZL.skip (by rfl) ?_; simp only [Act.put, List.setIfInBounds_toArray, List.set_cons_zero, List.set_cons_succ])
        | (refine TxtZL.take (by rfl) (by rfl) ?_; apply Exists.intro; refine ⟨fun w1 hS1 => ?_, ?_⟩; (focus (skip; go_simp; with_reducible rfl)); simp only [Act.put, List.setIfInBounds_toArray, List.set_cons_zero, List.set_cons_succ])
        | (refine TxtZL.takeE' (by rfl) (by rfl) ?_; apply Exists.intro; refine ⟨fun w1 hS1 => ?_, ?_⟩; (focus (skip; go_simp; with_reducible rfl)); simp only [Act.put, List.setIfInBounds_toArray, List.set_cons_zero, List.set_cons_succ]))
      refine TxtZL.last (fun w' => LineAt w' B q { c with held := H2 } iv (.slice R c.rc.length rcap) (.slice A' H2.length c') fv ∧ Below B wc w') (by rfl) (by rfl) (fun w3 hS3 hJ3 => ?_) ?_
      · obtain ⟨w2, hl2, hg, ho, hlv, hb3⟩ := hJ3
        obtain ⟨g0, g1, g2, g3, g4, g5⟩ := dgC hS3.1
        have hfz := hS3.1.frozen 4
        exact Eff.skip (w' := w3.setCell ⟨q, 4, none⟩ (.slice A' H2.length c')) (by go_simp) ⟨hl2.setH hg ho hlv, hb3.setCell hl2.bq _⟩
      rintro v w3 ⟨hl3, hb3⟩
      simp only [Act.put]
      go_wp2_with fail
      go_meet
      rw [HH2.out]
      exact ⟨_, hl3, hb3⟩
  obtain ⟨hv2, hl2, hb2⟩ := hcut
  have Hl2 := Lib.hid hl2
  have Hb3 := Lib.hid ((Hb2.out.mono hB).trans hb2)
  have hBc : B ≤ wc.heap.size := by have := hb2.size; omega
  obtain ⟨H0, hH0⟩ : ∃ H0, recvH c (a, x, y) = H0 := ⟨_, rfl⟩
  rw [hH0] at hHl Hl2
  have hre := Hrest.out
  rw [hH0] at hre
  have hfin : recvF c (a, x, y) = { c with rc := (drainF H0 c.rc).1, held := (drainF H0 c.rc).2, fl := ackF c.fl (drainF H0 c.rc).1 } := by unfold recvF; rw [hH0]
  have Hfin := Lib.hid hfin
  have Hre := Lib.hid hre
  clear hl2 hb2 hH0 hre hfin Hrest Hgo Hins2 Hb2 K2 Hh2 d0 d1 d2 d3 d4 d5 p0 p1 p2
  go_wp2_with fail
  go_loopw [] (fun wr => ∃ (r : List Int) (hh : List Pk) (rv hv : Value), LineAt wr B q { c with rc := r, held := hh } iv rv hv fv ∧ drainF hh r = drainF H0 c.rc ∧ Pre c.items r ∧ HeldOk c.items (r.length : Int) hh ∧ Below B w wr) (fun wr => lenAt wr q)
  case atStart => exact ⟨c.rc, H0, _, hv2, Hl2.out, rfl, Hre.out.1, Hre.out.2, Hb3.out⟩
  case round =>
    clear Hl2 Hb3 Hre
    obtain ⟨r, hh, rv, hv, hl, hdr, hpre, hho, hbw⟩ := hrel
    have hrl : r.length ≤ 60 := Nat.le_trans hpre.1 h60
    have hhl2 : hh.length ≤ 60 := hho.len (by omega) h60
    obtain ⟨R, rcap, rfl, hrr, hrn⟩ := OwnI.form2 hl.ro
    have Hl := Lib.hid hl; have Hho := Lib.hid hho; have Hpre := Lib.hid hpre; have Hbw := Lib.hid hbw; have Hdr := Lib.hid hdr
    have hqr := hl.blk.lt
    have hln : lenAt wr q = hh.length := by
      obtain ⟨A, k, e, _⟩ := hl.ho.form
      have := (dgC hl.blk).2.2.2.2.1
      unfold lenAt; rw [this, e]
    have Hln := Lib.hid hln
    clear hln hl hho hpre hbw hdr hrr hrn
    go_upto_region 5 with fail
    go_cut [80] (fun s80 wx => s80 = Value.bool (headB hh r) ∧ Below wr.heap.size wr wx)
    case first =>
      cases hh with
      | nil =>
        obtain ⟨H, hcap, rfl, _, _, _⟩ := Hl.out.ho.form
        obtain ⟨d0, d1, d2, d3, d4, d5⟩ := dgC Hl.out.blk
        have d4' : wr.cell? ⟨q, 4, none⟩ = some (.slice H 0 hcap) := d4
        clear d4
        go_quiet (fail)
        go_wp2_with fail
        go_meet
        exact ⟨rfl, below_drewN (Below.refl _ _) _⟩
      | cons p t =>
        obtain ⟨g, o, cap, rfl, hle, hcm, e0, e1, e2, hpop⟩ := Hl.out.ho.pop
        obtain ⟨d0, d1, d2, d3, d4, d5⟩ := dgC Hl.out.blk
        obtain ⟨a', n', v'⟩ := p
        simp only at e0 e1 e2
        have hpos : decide ((0 : Int) < ((t.length + 1 : Nat) : Int)) = true := decide_eq_true (by omega)
        have hpos2 : (0 : Int) < ((t.length + 1 : Nat) : Int) := by omega
        clear hpop
        go_quiet (fail)
        go_wp2_with fail
        go_meet
        exact ⟨rfl, below_drewN (Below.refl _ _) _⟩
    obtain ⟨rfl, hbc⟩ := hcut
    have Hl1 := Lib.hid (Hl.out.below hbc)
    have Hbw1 := Lib.hid (Hbw.out.trans (hbc.mono (by have := Hbw.out.size; omega)))
    have hsr := hbc.size
    obtain ⟨q0, hq0⟩ : ∃ q0, headB hh r = q0 := ⟨_, rfl⟩
    rw [hq0]
    clear Hl Hbw hbc
    cases q0
    case false =>
      have hds := drain_stop hq0
      have hfin : recvF c (a, x, y) = { c with rc := r, held := hh, fl := ackF c.fl r } := by rw [Hfin.out, ← Hdr.out, hds]
      have Hfin2 := Lib.hid hfin
      clear hds hfin hq0
      go_wp2_with fail
      refine (full_any2 B q _ iv (.slice R r.length rcap) hv fv wc Hl1.out).mono ?_
      rintro e w2 ⟨rfl, hb2⟩
      have Hl2 := Lib.hid (Hl1.out.below hb2)
      have hs2 := hb2.size
      have Hbw2 := Lib.hid (Hbw1.out.trans (hb2.mono (by have := Hbw1.out.size; omega)))
      have hB2 : B ≤ w2.heap.size := by have := Hbw1.out.size; omega
      clear hb2 Hl1 Hbw1
      by_cases hfu : 200 ≤ c.fl.length
      · have hd : decide (200 ≤ ({ c with rc := r, held := hh } : Chn).fl.length) = true := decide_eq_true hfu
        have hak : ackF c.fl r = c.fl := by unfold ackF; rw [if_pos hfu]
        have Hak := Lib.hid hak
        rw [hd]
        clear hak
        go_wp2_with fail
        refine bodyPost_ret (v := .tuple #[]) (by simp [results, Try.results54, go_sem]) rfl ?_
        rw [Hfin2.out, Hak.out]
        exact ⟨_, _, _, _, rfl, Hl2.out, Hbw2.out⟩
      · have hd : decide (200 ≤ ({ c with rc := r, held := hh } : Chn).fl.length) = false := decide_eq_false hfu
        rw [hd]
        obtain ⟨F, fc, rfl, hrf, hnf, hlf⟩ := Hl2.out.fo.form
        have hFl : ({ c with rc := r, held := hh } : Chn).fl.length = c.fl.length := rfl
        rw [hFl] at Hl2
        obtain ⟨fl2, hfl2⟩ : ∃ fl2, c.fl ++ [(true, (r.length : Int), 0)] = fl2 := ⟨_, rfl⟩
        have hak : ackF c.fl r = fl2 := by unfold ackF; rw [if_neg hfu, hfl2]
        have Hak := Lib.hid hak
        have Hfl2 := Lib.hid hfl2
        clear hak hfl2 hrf hnf hlf hFl hd
        go_upto_region 9 with fail
        refine wp_region_textZ [13, 14, 18] (fun w' => Blk w' q 90 #[iv, .int .i64 c.win, .int .i64 c.base, .slice R r.length rcap, hv, .slice F c.fl.length fc]) (fun w' => Below w2.heap.size w2 w') (by kernel_rfl) (by kernel_rfl) (by kernel_rfl) (by kernel_rfl) Hl2.out.blk (Below.refl _ _).drew ?_
        repeat (first
          | (refine TxtZL.skip (by rfl) ?_; simp only [Act.put, List.setIfInBounds_toArray, List.set_cons_zero, List.set_cons_succ])
          | (refine TxtZL.take (by rfl) (by rfl) ?_; apply Exists.intro; refine ⟨fun w1 hS1 => ?_, ?_⟩; (focus ((obtain ⟨g0, g1, g2, g3, g4, g5⟩ := dgC hS1); go_simp; with_reducible rfl)); simp only [Act.put, List.setIfInBounds_toArray, List.set_cons_zero, List.set_cons_succ])
          | (refine TxtZL.takeE' (by rfl) (by rfl) ?_; apply Exists.intro; refine ⟨fun w1 hS1 => ?_, ?_⟩; (focus ((obtain ⟨g0, g1, g2, g3, g4, g5⟩ := dgC hS1); go_simp; with_reducible rfl)); simp only [Act.put, List.setIfInBounds_toArray, List.set_cons_zero, List.set_cons_succ]))
        refine TxtZL.eff (fun v => ∃ gv : Nat, v = .slice (some ⟨gv, 0, none⟩) 1 1) (fun v w' => LineAt w' B q { c with rc := r, held := hh } iv (.slice R r.length rcap) hv (.slice F c.fl.length fc) ∧ Below w2.heap.size w2 w' ∧ ∃ gv : Nat, v = .slice (some ⟨gv, 0, none⟩) 1 1 ∧ Blk w' gv 94 #[.bool true, .int .i64 (r.length : Int), .int .i64 0]) (by rfl) (by rfl) ⟨_, 0, rfl⟩ (fun w3 hS3 hJ3 => ?_) ?_
        · have hl3 := Hl2.out.below hJ3
          exact Eff.value (w' := w3.alloc (.cells #[.bool true, .int .i64 (r.length : Int), .int .i64 0] 94)) (v := .slice (some ⟨w3.heap.size, 0, none⟩) 1 1) (by go_simp) ⟨hS3.alloc _, ⟨_, rfl⟩, hl3.below (newB _ _), hJ3.trans ((newB _ _).mono hJ3.size), _, rfl, Blk.new _ _ _⟩
        rintro v ⟨gv, rfl⟩
        simp only [Act.put, List.setIfInBounds_toArray, List.set_cons_zero, List.set_cons_succ]
        refine TxtZL.eff (fun v => ∃ A' c', v = Value.slice A' fl2.length c') (fun v w' => ∃ w3, LineAt w3 B q { c with rc := r, held := hh } iv (.slice R r.length rcap) hv (.slice F c.fl.length fc) ∧ w3.grownBy w' (Value.slice F c.fl.length fc).ownBlock ∧ OwnK w' B v fl2 ∧ (v.ownBlock = (Value.slice F c.fl.length fc).ownBlock ∨ ∀ k, v.ownBlock = some k → w3.heap.size ≤ k) ∧ Below B w2 w') (by rfl) (by rfl) ⟨_, none, 0, rfl⟩ (fun w3 hS3 hJ3 => Eff.of_list (ops := #[]) (by rfl) ?_) ?_
        · obtain ⟨hl3, hb3, gv', e, hV⟩ := hJ3
          injection e with e _ _; injection e with e; injection e with e _; subst e
          have hB3 : B ≤ w3.heap.size := by have := hb3.size; omega
          refine wpList_appK (by rfl) _ _ (by rfl) w3 B _ c.fl (some ⟨gv, 0, none⟩) [(true, (r.length : Int), 0)] 1 hl3.fo (rk_one hV) (fun e => by cases e) (by rfl) (by rfl) (by simp; omega) hB3 ?_
          intro v' w' ho hb' hg hlv
          rw [Hfl2.out] at ho
          obtain ⟨A', c', e', _, _, _⟩ := ho.form
          exact ⟨rfl, v', rfl, hl3.blk.grown hg (fun e => hl3.fo.ne hl3.blk (by decide) e.symm), ⟨A', c', e'⟩, w3, hl3, hg, ho, hlv, (hb3.mono (by omega)).trans hb'⟩
        rintro v ⟨A', c', rfl⟩
        simp only [Act.put, List.setIfInBounds_toArray, List.set_cons_zero, List.set_cons_succ]
        repeat (first
          | (refine TxtZL.skip (by rfl) ?_; simp only [Act.put, List.setIfInBounds_toArray, List.set_cons_zero, List.set_cons_succ])
          | (refine TxtZL.take (by rfl) (by rfl) ?_; apply Exists.intro; refine ⟨fun w1 hS1 => ?_, ?_⟩; (focus (skip; go_simp; with_reducible rfl)); simp only [Act.put, List.setIfInBounds_toArray, List.set_cons_zero, List.set_cons_succ])
          | (refine TxtZL.takeE' (by rfl) (by rfl) ?_; apply Exists.intro; refine ⟨fun w1 hS1 => ?_, ?_⟩; (focus (skip; go_simp; with_reducible rfl)); simp only [Act.put, List.setIfInBounds_toArray, List.set_cons_zero, List.set_cons_succ]))
        refine TxtZL.last (fun w' => LineAt w' B q { c with rc := r, held := hh, fl := fl2 } iv (.slice R r.length rcap) hv (.slice A' fl2.length c') ∧ Below B w2 w') (by rfl) (by rfl) (fun w4 hS4 hJ4 => ?_) ?_
        · obtain ⟨w3, hl3, hg, ho, hlv, hb4⟩ := hJ4
          obtain ⟨g0, g1, g2, g3, g4, g5⟩ := dgC hS4
          have hfz := hS4.frozen 5
          exact Eff.skip (w' := w4.setCell ⟨q, 5, none⟩ (.slice A' fl2.length c')) (by go_simp) ⟨hl3.setFl hg ho hlv, hb4.setCell hl3.bq _⟩
        rintro v w4 ⟨hl4, hb4⟩
        simp only [Act.put]
        have Hl4 := Lib.hid hl4; have Hb4 := Lib.hid hb4
        clear hl4 hb4
        go_wp2_with fail
        refine bodyPost_ret (v := .tuple #[]) (by simp [results, Try.results54, go_sem]) rfl ?_
        rw [Hfin2.out, Hak.out]
        exact ⟨_, _, _, _, rfl, Hl4.out, Hbw2.out.trans Hb4.out⟩
    case true =>
      obtain ⟨p, t, rfl, hpn, hdg⟩ := drain_go hq0
      obtain ⟨hpre2, hho2, hrlt⟩ := held_tail Hho.out hpn Hpre.out
      obtain ⟨g, o, cap, rfl, hle, hcm, e0, e1, e2, hpop⟩ := Hl1.out.ho.pop
      have Hpre2 := Lib.hid hpre2; have Hho2 := Lib.hid hho2; have Hdg := Lib.hid (hdg.symm.trans Hdr.out); have Hpop := Lib.hid hpop
      obtain ⟨a', n', v'⟩ := p
      simp only at e2 Hpre2 Hho2 Hdg
      have he2 := Lib.hid e2
      have hgl : g < wc.heap.size := lt_of_cell e2
      have hBw : B ≤ wc.heap.size := by have := Hbw1.out.size; omega
      obtain ⟨r2, hr2⟩ : ∃ r2, r ++ [v'] = r2 := ⟨_, rfl⟩
      rw [hr2] at Hpre2 Hho2 Hdg
      have Hr2 := Lib.hid hr2
      have hpos2 : (0 : Int) < ((t.length + 1 : Nat) : Int) := by omega
      clear hpre2 hho2 hdg hpop hpn hq0 e0 e1 e2 hr2 Hho Hpre Hdr
      go_upto_region 6 with fail
      refine wp_region_textZ [14, 15, 19] (fun w' => Blk w' q 90 #[iv, .int .i64 c.win, .int .i64 c.base, .slice R r.length rcap, .slice (some ⟨g, o, none⟩) (t.length + 1) (cap + 1), fv] ∧ w'.cell? ⟨g, o + 2, none⟩ = some (.int .i64 v')) (fun w' => Below wc.heap.size wc w') (by kernel_rfl) (by kernel_rfl) (by kernel_rfl) (by kernel_rfl) ⟨Hl1.out.blk, he2.out⟩ (Below.refl _ _).drew ?_
      repeat (first
        | (refine TxtZL.skip (by rfl) ?_; simp only [Act.put, List.setIfInBounds_toArray, List.set_cons_zero, List.set_cons_succ])
        | (refine TxtZL.take (by rfl) (by rfl) ?_; apply Exists.intro; refine ⟨fun w1 hS1 => ?_, ?_⟩; (focus ((obtain ⟨g0, g1, g2, g3, g4, g5⟩ := dgC hS1.1); (have g6 := hS1.2); go_simp; with_reducible rfl)); simp only [Act.put, List.setIfInBounds_toArray, List.set_cons_zero, List.set_cons_succ])
        | (refine TxtZL.takeE' (by rfl) (by rfl) ?_; apply Exists.intro; refine ⟨fun w1 hS1 => ?_, ?_⟩; (focus ((obtain ⟨g0, g1, g2, g3, g4, g5⟩ := dgC hS1.1); (have g6 := hS1.2); go_simp; with_reducible rfl)); simp only [Act.put, List.setIfInBounds_toArray, List.set_cons_zero, List.set_cons_succ]))
      refine TxtZL.eff (fun v => ∃ gv : Nat, v = .slice (some ⟨gv, 0, none⟩) 1 1) (fun v w' => ∃ X : World, w' = X.alloc (.cells #[.int .i64 v'] 3) ∧ v = .slice (some ⟨X.heap.size, 0, none⟩) 1 1 ∧ Below wc.heap.size wc X) (by rfl) (by rfl) ⟨_, 0, rfl⟩ (fun w3 hS3 hJ3 => ?_) ?_
      · exact Eff.value (w' := w3.alloc (.cells #[.int .i64 v'] 3)) (v := .slice (some ⟨w3.heap.size, 0, none⟩) 1 1) (by go_simp) ⟨⟨hS3.1.alloc _, ((newB _ _).cell (lt_of_cell hS3.2)).trans hS3.2⟩, ⟨_, rfl⟩, w3, rfl, rfl, hJ3⟩
      rintro v ⟨gv, rfl⟩
      simp only [Act.put, List.setIfInBounds_toArray, List.set_cons_zero, List.set_cons_succ]
      refine TxtZL.eff (fun v => ∃ A' c', v = Value.slice A' r2.length c') (fun v w' => ∃ X, LineAt X B q { c with rc := r, held := (a', n', v') :: t } iv (.slice R r.length rcap) (.slice (some ⟨g, o, none⟩) (t.length + 1) (cap + 1)) fv ∧ X.grownBy w' (Value.slice R r.length rcap).ownBlock ∧ OwnI w' B v r2 ∧ (v.ownBlock = (Value.slice R r.length rcap).ownBlock ∨ ∀ k, v.ownBlock = some k → X.heap.size ≤ k) ∧ Below B wc w') (by rfl) (by rfl) ⟨_, none, 0, rfl⟩ (fun w3 hS3 hJ3 => Eff.of_list (ops := #[]) (by rfl) ?_) ?_
      · obtain ⟨X, rfl, e, hX⟩ := hJ3
        injection e with e _ _; injection e with e; injection e with e _; subst e
        have hlX := Hl1.out.below hX
        have hBX : B ≤ X.heap.size := by have := hX.size; omega
        refine wpList_appI2 (by rfl) _ _ (by rfl) X B _ r v' hlX.ro (by rfl) (by rfl) rfl (by omega) hBX ?_
        intro v'' w' ho hb' hg hlv
        rw [Hr2.out] at ho
        obtain ⟨A', c', e', _, _⟩ := OwnI.form2 ho
        refine ⟨rfl, v'', rfl, ⟨hlX.blk.grown hg (fun e => row_ne hlX.ro hlX.blk (by decide) e.symm), ?_⟩, ⟨A', c', e'⟩, X, hlX, hg, ho, hlv, (hX.mono hBw).trans hb'⟩
        have hgX : g < X.heap.size := by have := hX.size; omega
        exact (World.cell?_of_block (a := ⟨g, o + 2, none⟩) (hg.block g hgX (fun e => row_apart hlX.ro hlX.ho g e.symm rfl))).trans ((hX.cell (p := ⟨g, o + 2, none⟩) hgl).trans he2.out)
      rintro v ⟨A', c', rfl⟩
      simp only [Act.put, List.setIfInBounds_toArray, List.set_cons_zero, List.set_cons_succ]
      repeat (first
        | (refine TxtZL.skip (by rfl) ?_; simp only [Act.put, List.setIfInBounds_toArray, List.set_cons_zero, List.set_cons_succ])
        | (refine TxtZL.take (by rfl) (by rfl) ?_; apply Exists.intro; refine ⟨fun w1 hS1 => ?_, ?_⟩; (focus (skip; go_simp; with_reducible rfl)); simp only [Act.put, List.setIfInBounds_toArray, List.set_cons_zero, List.set_cons_succ])
        | (refine TxtZL.takeE' (by rfl) (by rfl) ?_; apply Exists.intro; refine ⟨fun w1 hS1 => ?_, ?_⟩; (focus (skip; go_simp; with_reducible rfl)); simp only [Act.put, List.setIfInBounds_toArray, List.set_cons_zero, List.set_cons_succ]))
      refine TxtZL.last (fun w' => LineAt w' B q { c with rc := r2, held := (a', n', v') :: t } iv (.slice A' r2.length c') (.slice (some ⟨g, o, none⟩) (t.length + 1) (cap + 1)) fv ∧ Below B wc w') (by rfl) (by rfl) (fun w4 hS4 hJ4 => ?_) ?_
      · obtain ⟨X, hlX, hg, ho, hlv, hb4⟩ := hJ4
        obtain ⟨g0, g1, g2, g3, g4, g5⟩ := dgC hS4.1
        have hfz := hS4.1.frozen 3
        exact Eff.skip (w' := w4.setCell ⟨q, 3, none⟩ (.slice A' r2.length c')) (by go_simp) ⟨hlX.setR hg ho hlv, hb4.setCell hlX.bq _⟩
      rintro v w4 ⟨hl4, hb4⟩
      simp only [Act.put]
      have Hl4 := Lib.hid hl4; have Hb4 := Lib.hid (Hbw1.out.trans hb4)
      obtain ⟨d0, d1, d2, d3, d4, d5⟩ := dgC hl4.blk
      have hfz := hl4.blk.frozen 4
      have hm1 : (1 : Int) ≤ ((t.length + 1 : Nat) : Int) := by omega
      have hm2 : ((t.length + 1 : Nat) : Int) ≤ ((cap + 1 : Nat) : Int) := by omega
      have hown : OwnK w4 B (.slice (some ⟨g, if cap = 0 then o else o + 3, none⟩) t.length cap) t := by
        obtain ⟨g', o', cap', e, _, _, _, _, _, hp⟩ := hl4.ho.pop
        simp only [Value.slice.injEq, Option.some.injEq, Addr.mk.injEq] at e
        obtain ⟨⟨rfl, rfl, _⟩, _, e⟩ := e
        obtain rfl : cap = cap' := by omega
        exact hp
      have hl5 := hl4.setH (hv' := .slice (some ⟨g, if cap = 0 then o else o + 3, none⟩) t.length cap) (grownBy_refl _ _) hown (.inl rfl)
      have Hb5 := Lib.hid (Hb4.out.setCell (p := ⟨q, 4, none⟩) hl4.bq (.slice (some ⟨g, if cap = 0 then o else o + 3, none⟩) t.length cap))
      have Hl5 := Lib.hid hl5
      have Hln5 := Lib.hid (show lenAt (w4.setCell ⟨q, 4, none⟩ (.slice (some ⟨g, if cap = 0 then o else o + 3, none⟩) t.length cap)) q = t.length from by
        have := (dgC hl5.blk).2.2.2.2.1
        unfold lenAt; rw [this])
      clear hl4 hb4 hown hl5 Hl4 Hl1 Hbw1 Hb4
      rcases Nat.eq_zero_or_pos cap with hc0 | hc0
      · subst hc0
        obtain rfl : t = [] := List.eq_nil_of_length_eq_zero (by omega)
        simp only [if_true, List.length_nil] at Hl5 Hb5 Hln5
        go_wp2_with fail
        go_roundw
        case rel => exact ⟨r2, [], _, _, Hl5.out, Hdg.out, Hpre2.out, Hho2.out, Hb5.out⟩
        case measure => rw [Hln.out, Hln5.out]; simp
      · have hc1 : ¬ cap = 0 := by omega
        simp only [hc1, if_false] at Hl5 Hb5 Hln5
        go_wp2_with fail
        go_roundw
        case rel => exact ⟨r2, t, _, _, Hl5.out, Hdg.out, Hpre2.out, Hho2.out, Hb5.out⟩
        case measure => rw [Hln.out, Hln5.out]; simp
end Go.Proofs.Ythkknlnfdckdfaa
