/- The line of a channel in its box; full and send. -/
import Derived.Test.YthkknlnfdckdfaaCh1
namespace Go.Proofs.Ythkknlnfdckdfaa
open Go.ChangeShapes Go.WideShapes Go.ChangeAt Go.RowKit

theorem row_ne {w : World} {b k n : Nat} {t t' : TypeId} {v : Value} {xs : List Value} (h : w.ownsRow b t k v n xs) {g : Nat} {cs : Array Value} (hB : Blk w g t' cs) (ht : t' ≠ t) : v.ownBlock ≠ some g := by
  rcases h.2 with ⟨rfl, _⟩ | ⟨g', cap, cur, rfl, _, hh, _⟩
  · intro e; cases e
  · intro e
    injection e with e; subst e
    unfold Blk at hB
    rw [hh] at hB
    injection hB with hB; injection hB with _ hB
    exact ht hB.symm
theorem row_apart {w : World} {b b' : Nat} {v u : Value} {l : List Int} {m : List Pk} (h : OwnI w b v l) (k : OwnK w b' u m) : ∀ x, v.ownBlock = some x → u.ownBlock ≠ some x := by
  intro x hx hu
  rcases k with ⟨rfl, _⟩ | ⟨g, o, cap, cur, rfl, _, h2, _⟩
  · cases hu
  · injection hu with hu; subst hu
    exact row_ne h h2 (by decide) hx
theorem OwnI.keptL {w w' : World} {b : Nat} {v : Value} {l : List Int} {row : Option Nat} (h : OwnI w b v l) (hg : w.grownBy w' row) (hne : ∀ k, v.ownBlock = some k → some k ≠ row) : OwnI w' b v l := by
  refine World.ownsRow.kept h hg ?_
  cases e : v.ownBlock with
  | none => exact .inl rfl
  | some k => exact .inr fun e2 => hne k e (e2 ▸ e ▸ rfl)

/-- a line: the pointer's box, what it holds, where its lists lie -/
structure LineAt (w : World) (B q : Nat) (c : Chn) (iv rv hv fv : Value) : Prop where
  blk : Blk w q 90 #[iv, .int .i64 c.win, .int .i64 c.base, rv, hv, fv]
  bq : B ≤ q
  io : OwnI w B iv c.items
  ro : OwnI w B rv c.rc
  ho : OwnK w B hv c.held
  fo : OwnK w B fv c.fl
  ir : ∀ k, iv.ownBlock = some k → rv.ownBlock ≠ some k
  hf : ∀ k, hv.ownBlock = some k → fv.ownBlock ≠ some k
theorem LineAt.below {w w' : World} {B q : Nat} {c : Chn} {iv rv hv fv : Value} (h : LineAt w B q c iv rv hv fv) (hb : Below w.heap.size w w') : LineAt w' B q c iv rv hv fv :=
  ⟨h.blk.below hb h.blk.lt, h.bq, h.io.below hb, h.ro.below hb, h.ho.below hb, h.fo.below hb, h.ir, h.hf⟩
theorem LineAt.setFl {w w' : World} {B q : Nat} {c : Chn} {iv rv hv fv fv' : Value} {fl' : List Pk} (h : LineAt w B q c iv rv hv fv) (hg : w.grownBy w' fv.ownBlock) (ho : OwnK w' B fv' fl') (hl : fv'.ownBlock = fv.ownBlock ∨ ∀ k, fv'.ownBlock = some k → w.heap.size ≤ k) :
    LineAt (w'.setCell ⟨q, 5, none⟩ fv') B q { c with fl := fl' } iv rv hv fv' := by
  have hq : fv.ownBlock ≠ some q := h.fo.ne h.blk (by decide)
  have hB' := h.blk.grown hg (fun e => hq e.symm)
  have e1 := row_ne h.io h.blk (by decide)
  have e2 := row_ne h.ro h.blk (by decide)
  have e3 := h.ho.ne h.blk (by decide)
  have e4 := ho.ne hB' (by decide)
  refine ⟨hB'.set_ 5 fv', h.bq, (h.io.keptL hg fun k hk e => row_apart h.io h.fo k hk e.symm).far e1 _, (h.ro.keptL hg fun k hk e => row_apart h.ro h.fo k hk e.symm).far e2 _, (h.ho.kept hg fun k hk e => h.hf k hk e.symm).far e3 _ _, ho.far e4 _ _, h.ir, fun k hk => ?_⟩
  rcases hl with hl | hl
  · rw [hl]; exact h.hf k hk
  · intro e
    have := hl k e
    have := (h.ho.lt k hk).2
    omega
theorem LineAt.setH {w w' : World} {B q : Nat} {c : Chn} {iv rv hv fv hv' : Value} {h' : List Pk} (h : LineAt w B q c iv rv hv fv) (hg : w.grownBy w' hv.ownBlock) (ho : OwnK w' B hv' h') (hl : hv'.ownBlock = hv.ownBlock ∨ ∀ k, hv'.ownBlock = some k → w.heap.size ≤ k) :
    LineAt (w'.setCell ⟨q, 4, none⟩ hv') B q { c with held := h' } iv rv hv' fv := by
  have hq : hv.ownBlock ≠ some q := h.ho.ne h.blk (by decide)
  have hB' := h.blk.grown hg (fun e => hq e.symm)
  have e1 := row_ne h.io h.blk (by decide)
  have e2 := row_ne h.ro h.blk (by decide)
  have e3 := h.fo.ne h.blk (by decide)
  have e4 := ho.ne hB' (by decide)
  refine ⟨hB'.set_ 4 hv', h.bq, (h.io.keptL hg fun k hk e => row_apart h.io h.ho k hk e.symm).far e1 _, (h.ro.keptL hg fun k hk e => row_apart h.ro h.ho k hk e.symm).far e2 _, ho.far e4 _ _, (h.fo.kept hg fun k hk e => h.hf k e.symm hk).far e3 _ _, h.ir, fun k hk => ?_⟩
  rcases hl with hl | hl
  · exact h.hf k (hl ▸ hk)
  · intro e
    have := hl k hk
    have := (h.fo.lt k e).2
    omega
theorem LineAt.setR {w w' : World} {B q : Nat} {c : Chn} {iv rv hv fv rv' : Value} {r' : List Int} (h : LineAt w B q c iv rv hv fv) (hg : w.grownBy w' rv.ownBlock) (ho : OwnI w' B rv' r') (hl : rv'.ownBlock = rv.ownBlock ∨ ∀ k, rv'.ownBlock = some k → w.heap.size ≤ k) :
    LineAt (w'.setCell ⟨q, 3, none⟩ rv') B q { c with rc := r' } iv rv' hv fv := by
  have hq : rv.ownBlock ≠ some q := row_ne h.ro h.blk (by decide)
  have hB' := h.blk.grown hg (fun e => hq e.symm)
  have e1 := row_ne h.io h.blk (by decide)
  have e2 := h.ho.ne h.blk (by decide)
  have e3 := h.fo.ne h.blk (by decide)
  have e4 := row_ne ho hB' (by decide)
  refine ⟨hB'.set_ 3 rv', h.bq, (h.io.keptL hg fun k hk e => h.ir k hk e.symm).far e1 _, ho.far e4 _, (h.ho.kept hg fun k hk e => row_apart h.ro h.ho k e.symm hk).far e2 _ _, (h.fo.kept hg fun k hk e => row_apart h.ro h.fo k e.symm hk).far e3 _ _, fun k hk => ?_, h.hf⟩
  rcases hl with hl | hl
  · rw [hl]; exact h.ir k hk
  · intro e
    have := hl k e
    have := (World.ownsRow.lt h.io k hk).2
    omega
theorem LineAt.setB {w : World} {B q : Nat} {c : Chn} {iv rv hv fv : Value} (h : LineAt w B q c iv rv hv fv) (b : Int) :
    LineAt (w.setCell ⟨q, 2, none⟩ (.int .i64 b)) B q { c with base := b } iv rv hv fv := by
  have e1 := row_ne h.io h.blk (by decide)
  have e2 := row_ne h.ro h.blk (by decide)
  have e3 := h.ho.ne h.blk (by decide)
  have e4 := h.fo.ne h.blk (by decide)
  exact ⟨h.blk.set_ 2 _, h.bq, h.io.far e1 _, h.ro.far e2 _, h.ho.far e3 _ _, h.fo.far e4 _ _, h.ir, h.hf⟩

set_option maxHeartbeats 1000000 in
theorem full_any2 (B q : Nat) (c : Chn) (iv rv hv fv : Value) (w : World) (h : LineAt w B q c iv rv hv fv) :
    Calls Try.prog 37 #[.pointer (some ⟨q, 0, none⟩)] w (RetB (.bool (decide (200 ≤ c.fl.length))) w) := by
  obtain ⟨d0, d1, d2, d3, d4, d5⟩ := dgC h.blk
  obtain ⟨F, fc, rfl, _, _, _⟩ := h.fo.form
  have hd : decide ((200 : Int) ≤ (c.fl.length : Int)) = decide (200 ≤ c.fl.length) := decide_eq_decide.2 (by omega)
  obtain ⟨b, hb⟩ : ∃ b, decide (200 ≤ c.fl.length) = b := ⟨_, rfl⟩
  rw [hb] at hd ⊢
  go_enter Try.func37, Try.ntmps37
  go_wp2_with fail
  go_ret
  exact ⟨rfl, Below.refl _ _⟩
def RetLn (B q : Nat) (c : Chn) (v : Value) (w : World) : Ending → World → Prop := fun e w' => ∃ iv rv hv fv, e = .returned v ∧ LineAt w' B q c iv rv hv fv ∧ Below B w w'
theorem rk_one {w : World} {g : Nat} {t : TypeId} {a : Bool} {x y : Int} (h : Blk w g t #[.bool a, .int .i64 x, .int .i64 y]) : RK w (some ⟨g, 0, none⟩) [(a, x, y)] := fun k hk => by
  have : k = 0 := by simp at hk; omega
  subst this
  exact ⟨g, 0, rfl, by rw [h.cell]; rfl, by rw [h.cell]; rfl, by rw [h.cell]; rfl⟩
theorem sendF_no {c : Chn} {n : Int} (h : sendE c n ≠ 0) : sendF c n = c := by unfold sendF; rw [if_neg h]
set_option maxRecDepth 100000 in
set_option maxHeartbeats 4000000 in
theorem send_any (B q : Nat) (c : Chn) (n : Int) (iv rv hv fv : Value) (w : World) (h : LineAt w B q c iv rv hv fv) (hc : CI c) (hn0 : -9223372036854775808 ≤ n) (hn1 : n ≤ 9223372036854775807) (hB : B ≤ w.heap.size) :
    Calls Try.prog 34 #[.pointer (some ⟨q, 0, none⟩), .int .i64 n] w (RetLn B q (sendF c n) (.int .i64 (sendE c n)) w) := by
  have hw0 := hc.w0; have hw1 := hc.w1; have h60 := hc.n60; have hb0 := hc.b0; have hb1 := hc.b1; have hp := hc.pre.1; have hfl := hc.fl
  obtain ⟨I, ic, rfl, hri, hin⟩ := OwnI.form2 h.io
  obtain ⟨d0, d1, d2, d3, d4, d5⟩ := dgC h.blk
  have Hh := Lib.hid h
  by_cases hr : n < 0 ∨ c.win ≤ n
  · have he : sendE c n = 1 := by unfold sendE; rw [if_pos (by omega)]
    have hf : sendF c n = c := sendF_no (by omega)
    have Hf := Lib.hid hf
    rw [he]
    clear he hf h hc
    obtain ⟨k, hk⟩ : ∃ k, IntKind.i64.wrap (c.base + n) = k := ⟨_, rfl⟩
    by_cases hn : n < 0
    · have hd : decide (n < 0) = true := decide_eq_true hn
      go_enter Try.func34, Try.ntmps34
      go_wp2_with fail
      go_ret
      rw [Hf.out]
      exact ⟨_, _, _, _, rfl, Hh.out, Below.refl _ _⟩
    · have hd : decide (n < 0) = false := decide_eq_false hn
      have hd2 : decide (c.win ≤ n) = true := decide_eq_true (by omega)
      go_enter Try.func34, Try.ntmps34
      go_wp2_with fail
      go_ret
      rw [Hf.out]
      exact ⟨_, _, _, _, rfl, Hh.out, Below.refl _ _⟩
  · have hd : decide (n < 0) = false := decide_eq_false (by omega)
    have hd2 : decide (c.win ≤ n) = false := decide_eq_false (by omega)
    have hk : IntKind.i64.wrap (c.base + n) = c.base + n := by rw [IntKind.wrap_i64]; omega
    have hd3 : decide (c.base + n < 0) = false := decide_eq_false (by omega)
    by_cases hl : (c.items.length : Int) ≤ c.base + n
    · have he : sendE c n = 1 := by unfold sendE; rw [if_pos (by omega)]
      have hf : sendF c n = c := sendF_no (by omega)
      have Hf := Lib.hid hf
      have hd4 : decide ((c.items.length : Int) ≤ c.base + n) = true := decide_eq_true hl
      rw [he]
      clear he hf h hc
      go_enter Try.func34, Try.ntmps34
      go_wp2_with fail
      go_ret
      rw [Hf.out]
      exact ⟨_, _, _, _, rfl, Hh.out, Below.refl _ _⟩
    · have hd4 : decide ((c.items.length : Int) ≤ c.base + n) = false := decide_eq_false hl
      by_cases hfu : 200 ≤ c.fl.length
      · have he : sendE c n = 2 := by unfold sendE; rw [if_neg (by omega), if_pos hfu]
        have hf : sendF c n = c := sendF_no (by omega)
        have Hf := Lib.hid hf
        have hd5 : decide (200 ≤ c.fl.length) = true := decide_eq_true hfu
        rw [he]
        clear he hf h hc
        go_enter Try.func34, Try.ntmps34
        go_wp2_with fail
        refine (full_any2 B q c _ rv hv fv w Hh.out).mono ?_
        rintro e w1 ⟨rfl, hb⟩
        rw [hd5]
        have Hh1 := Lib.hid (Hh.out.below hb)
        go_wp2_with fail
        go_ret
        rw [Hf.out]
        exact ⟨_, _, _, _, rfl, Hh1.out, hb.mono hB⟩
      · have he : sendE c n = 0 := by unfold sendE; rw [if_neg (by omega), if_neg hfu]
        have hf : sendF c n = { c with fl := c.fl ++ [(false, c.base + n, itemAt c.items (c.base + n))] } := by unfold sendF; rw [if_pos he]
        have Hf := Lib.hid hf
        have hd5 : decide (200 ≤ c.fl.length) = false := decide_eq_false hfu
        rw [he]
        obtain ⟨k, hk2⟩ : ∃ k : Nat, c.base + n = (k : Int) := ⟨(c.base + n).toNat, by omega⟩
        rw [hk2] at hk hd3 hd4 Hf
        have hkl : k < c.items.length := by omega
        have hitem : itemAt c.items (k : Int) = c.items.getD k 0 := rfl
        obtain ⟨x, hx⟩ : ∃ x, c.items.getD k 0 = x := ⟨_, rfl⟩
        rw [hitem, hx] at Hf
        obtain ⟨fl2, hfl2⟩ : ∃ fl2, c.fl ++ [(false, (k : Int), x)] = fl2 := ⟨_, rfl⟩
        rw [hfl2] at Hf
        have Hfl2 := Lib.hid hfl2
        clear hfl2
        have Hk2 := Lib.hid hk2
        have hki : (k : Int) < (c.items.length : Int) := by omega
        have hk0 : (0 : Int) ≤ (k : Int) := by omega
        clear he hf h hc hitem
        go_enter Try.func34, Try.ntmps34
        go_wp2_with fail
        refine (full_any2 B q c _ rv hv fv w Hh.out).mono ?_
        rintro e w1 ⟨rfl, hb⟩
        rw [hd5]
        have hs1 := hb.size
        have Hh1 := Lib.hid (Hh.out.below hb)
        have hri1 := hri.below hb
        obtain ⟨b0, o0, rfl, hcx⟩ := hri1 k hkl
        rw [hx] at hcx
        obtain ⟨d0, d1, d2, d3, d4, d5⟩ := dgC Hh1.out.blk
        obtain ⟨F, fc, rfl, hrf, hnf, hlf⟩ := Hh1.out.fo.form
        have hcxl := lt_of_cell hcx
        have Hx := Lib.hid hcx
        have hbi : ∀ row, (∀ k, (Value.slice (some ⟨b0, o0, none⟩) c.items.length ic).ownBlock = some k → some k ≠ row) → some b0 ≠ row := fun row h => h b0 rfl
        go_upto_region 6 with fail
        refine wp_region_textZ [16, 17, 21] (fun w' => Blk w' q 90 #[.slice (some ⟨b0, o0, none⟩) c.items.length ic, .int .i64 c.win, .int .i64 c.base, rv, hv, .slice F c.fl.length fc] ∧ w'.cell? ⟨b0, o0 + k, none⟩ = some (.int .i64 x)) (fun w' => Below w1.heap.size w1 w') (by kernel_rfl) (by kernel_rfl) (by kernel_rfl) (by kernel_rfl) ⟨Hh1.out.blk, Hx.out⟩ (Below.refl _ _).drew ?_
        repeat (first
          | (refine TxtZL.skip (by rfl) ?_; simp only [Act.put, List.setIfInBounds_toArray, List.set_cons_zero, List.set_cons_succ])
          | (refine TxtZL.take (by rfl) (by rfl) ?_; apply Exists.intro; refine ⟨fun w1 hS1 => ?_, ?_⟩; (focus ((obtain ⟨g0, g1, g2, g3, g4, g5⟩ := dgC hS1.1; have g6 := hS1.2); go_simp; with_reducible rfl)); simp only [Act.put, List.setIfInBounds_toArray, List.set_cons_zero, List.set_cons_succ])
          | (refine TxtZL.takeE' (by rfl) (by rfl) ?_; apply Exists.intro; refine ⟨fun w1 hS1 => ?_, ?_⟩; (focus ((obtain ⟨g0, g1, g2, g3, g4, g5⟩ := dgC hS1.1; have g6 := hS1.2); go_simp; with_reducible rfl)); simp only [Act.put, List.setIfInBounds_toArray, List.set_cons_zero, List.set_cons_succ]))
        refine TxtZL.eff (fun v => ∃ gv : Nat, v = .slice (some ⟨gv, 0, none⟩) 1 1) (fun v w' => LineAt w' B q c (.slice (some ⟨b0, o0, none⟩) c.items.length ic) rv hv (.slice F c.fl.length fc) ∧ Below w1.heap.size w1 w' ∧ ∃ gv : Nat, v = .slice (some ⟨gv, 0, none⟩) 1 1 ∧ Blk w' gv 94 #[.bool false, .int .i64 (k : Int), .int .i64 x]) (by rfl) (by rfl) ⟨_, 0, rfl⟩ (fun w2 hS2 hJ2 => ?_) ?_
        · have hl2 := Hh1.out.below hJ2
          exact Eff.value (w' := w2.alloc (.cells #[.bool false, .int .i64 (k : Int), .int .i64 x] 94)) (v := .slice (some ⟨w2.heap.size, 0, none⟩) 1 1) (by go_simp) ⟨⟨hS2.1.alloc _, ((newB _ _).cell (lt_of_cell hS2.2)).trans hS2.2⟩, ⟨_, rfl⟩, hl2.below (newB _ _), hJ2.trans ((newB _ _).mono hJ2.size), _, rfl, Blk.new _ _ _⟩
        rintro v ⟨gv, rfl⟩
        simp only [Act.put, List.setIfInBounds_toArray, List.set_cons_zero, List.set_cons_succ]
        refine TxtZL.eff (fun v => ∃ A' c', v = Value.slice A' fl2.length c') (fun v w' => ∃ w2, LineAt w2 B q c (.slice (some ⟨b0, o0, none⟩) c.items.length ic) rv hv (.slice F c.fl.length fc) ∧ w2.grownBy w' (Value.slice F c.fl.length fc).ownBlock ∧ OwnK w' B v fl2 ∧ (v.ownBlock = (Value.slice F c.fl.length fc).ownBlock ∨ ∀ k, v.ownBlock = some k → w2.heap.size ≤ k) ∧ Below B w1 w') (by rfl) (by rfl) ⟨_, none, 0, rfl⟩ (fun w2 hS2 hJ2 => Eff.of_list (ops := #[]) (by rfl) ?_) ?_
        · obtain ⟨hl2, hb2, gv', e, hV⟩ := hJ2
          injection e with e _ _; injection e with e; injection e with e _; subst e
          have hB2 : B ≤ w2.heap.size := by have := hb2.size; omega
          refine wpList_appK (by rfl) _ _ (by rfl) w2 B _ c.fl (some ⟨gv, 0, none⟩) [(false, (k : Int), x)] 1 hl2.fo (rk_one hV) (fun e => by cases e) (by rfl) (by rfl) (by simp; omega) hB2 ?_
          intro v' w' ho hb' hg hlv
          rw [Hfl2.out] at ho
          obtain ⟨A', c', e', _, _, _⟩ := ho.form
          refine ⟨rfl, v', rfl, ⟨hl2.blk.grown hg (fun e => hl2.fo.ne hl2.blk (by decide) e.symm), ?_⟩, ⟨A', c', e'⟩, w2, hl2, hg, ho, hlv, (hb2.mono (by omega)).trans hb'⟩
          exact (World.cell?_of_block (a := ⟨b0, o0 + k, none⟩) (hg.block b0 (lt_of_cell hS2.2) (fun e => row_apart hl2.io hl2.fo b0 rfl e.symm))).trans hS2.2
        rintro v ⟨A', c', rfl⟩
        simp only [Act.put, List.setIfInBounds_toArray, List.set_cons_zero, List.set_cons_succ]
        repeat (first
          | (refine TxtZL.skip (by rfl) ?_; simp only [Act.put, List.setIfInBounds_toArray, List.set_cons_zero, List.set_cons_succ])
          | (refine TxtZL.take (by rfl) (by rfl) ?_; apply Exists.intro; refine ⟨fun w1 hS1 => ?_, ?_⟩; (focus (skip; go_simp; with_reducible rfl)); simp only [Act.put, List.setIfInBounds_toArray, List.set_cons_zero, List.set_cons_succ])
          | (refine TxtZL.takeE' (by rfl) (by rfl) ?_; apply Exists.intro; refine ⟨fun w1 hS1 => ?_, ?_⟩; (focus (skip; go_simp; with_reducible rfl)); simp only [Act.put, List.setIfInBounds_toArray, List.set_cons_zero, List.set_cons_succ]))
        refine TxtZL.last (fun w' => LineAt w' B q { c with fl := fl2 } (.slice (some ⟨b0, o0, none⟩) c.items.length ic) rv hv (.slice A' fl2.length c') ∧ Below B w1 w') (by rfl) (by rfl) (fun w3 hS3 hJ3 => ?_) ?_
        · obtain ⟨w2, hl2, hg, ho, hlv, hb3⟩ := hJ3
          obtain ⟨g0, g1, g2, g3, g4, g5⟩ := dgC hS3.1
          have hfz := hS3.1.frozen 5
          exact Eff.skip (w' := w3.setCell ⟨q, 5, none⟩ (.slice A' fl2.length c')) (by go_simp) ⟨hl2.setFl hg ho hlv, hb3.setCell hl2.bq _⟩
        rintro v w3 ⟨hl3, hb3⟩
        simp only [Act.put]
        have Hl3 := Lib.hid hl3; have Hb3 := Lib.hid hb3
        clear hl3 hb3
        go_wp2_with fail
        go_ret
        rw [Hf.out]
        exact ⟨_, _, _, _, rfl, Hl3.out, (hb.mono hB).trans Hb3.out⟩
end Go.Proofs.Ythkknlnfdckdfaa
