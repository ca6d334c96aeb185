/- channel.copied, New, Done. (Printed by gen_cn4.py.) -/
import Derived.Test.YthkknlnfdckdfaaCn3
import Derived.Test.YthkknlnfdckdfaaPt6
namespace Go.Proofs.Ythkknlnfdckdfaa
open Go.ChangeShapes Go.WideShapes Go.ChangeAt Go.RowKit

/-- the lists of a channel that lies anywhere -/
structure ChR (w : World) (c : Chn) (I : Option Addr) (ci : Nat) (R : Option Addr) (cr : Nat) (H : Option Addr) (ch : Nat) (F : Option Addr) (cf : Nat) : Prop where
  ri : RI w I c.items
  i0 : I = none → c.items = [] ∧ ci = 0
  rr : RI w R c.rc
  r0 : R = none → c.rc = [] ∧ cr = 0
  rh : RK w H c.held
  h0 : H = none → c.held = [] ∧ ch = 0
  rf : RK w F c.fl
  f0 : F = none → c.fl = [] ∧ cf = 0
theorem ChR.below {w w' : World} {c : Chn} {I : Option Addr} {ci : Nat} {R : Option Addr} {cr : Nat} {H : Option Addr} {ch : Nat} {F : Option Addr} {cf : Nat} (h : ChR w c I ci R cr H ch F cf) (hb : Below w.heap.size w w') : ChR w' c I ci R cr H ch F cf :=
  ⟨h.ri.below hb, h.i0, h.rr.below hb, h.r0, h.rh.below hb, h.h0, h.rf.below hb, h.f0⟩
/-- where the lists of a channel lie -/
structure ChG (B : Nat) (I R H F : Option Addr) : Prop where
  gi : ∀ b o, I = some ⟨b, o, none⟩ → B ≤ b
  gr : ∀ b o, R = some ⟨b, o, none⟩ → B ≤ b
  gh : ∀ b o, H = some ⟨b, o, none⟩ → B ≤ b
  gf : ∀ b o, F = some ⟨b, o, none⟩ → B ≤ b
theorem ChG.mono {B B' : Nat} {I R H F : Option Addr} (h : ChG B I R H F) (hb : B' ≤ B) : ChG B' I R H F :=
  ⟨fun b o e => Nat.le_trans hb (h.gi b o e), fun b o e => Nat.le_trans hb (h.gr b o e), fun b o e => Nat.le_trans hb (h.gh b o e), fun b o e => Nat.le_trans hb (h.gf b o e)⟩
theorem LineAt.chr {w : World} {B q : Nat} {c : Chn} {iv rv hv fv : Value} (h : LineAt w B q c iv rv hv fv) : ∃ I ci R cr H ch F cf, iv = .slice I c.items.length ci ∧ rv = .slice R c.rc.length cr ∧ hv = .slice H c.held.length ch ∧ fv = .slice F c.fl.length cf ∧ ChR w c I ci R cr H ch F cf ∧ ChG B I R H F := by
  have gi := World.ownsRow.lt h.io
  have gr := World.ownsRow.lt h.ro
  have gh := h.ho.lt
  have gf := h.fo.lt
  obtain ⟨I, ci, rfl, h1, h2⟩ := OwnI.form2 h.io
  obtain ⟨R, cr, rfl, h3, h4⟩ := OwnI.form2 h.ro
  obtain ⟨H, ch, rfl, h5, h6, _⟩ := h.ho.form
  obtain ⟨F, cf, rfl, h7, h8, _⟩ := h.fo.form
  exact ⟨I, ci, R, cr, H, ch, F, cf, rfl, rfl, rfl, rfl, ⟨h1, h2, h3, h4, h5, h6, h7, h8⟩, ⟨fun b o e => (gi b (by rw [e]; rfl)).1, fun b o e => (gr b (by rw [e]; rfl)).1, fun b o e => (gh b (by rw [e]; rfl)).1, fun b o e => (gf b (by rw [e]; rfl)).1⟩⟩
theorem apartI {w w' : World} {b b' : Nat} {u v : Value} {l m : List Int} (h : OwnI w b u l) (k : OwnI w' b' v m) (hb : w.heap.size ≤ b') : ∀ x, u.ownBlock = some x → v.ownBlock ≠ some x := fun x hx hv => by
  have := (World.ownsRow.lt h x hx).2
  have := (World.ownsRow.lt k x hv).1
  omega
theorem apartK {w w' : World} {b b' : Nat} {u v : Value} {l m : List Pk} (h : OwnK w b u l) (k : OwnK w' b' v m) (hb : w.heap.size ≤ b') : ∀ x, u.ownBlock = some x → v.ownBlock ≠ some x := fun x hx hv => by
  have := (h.lt x hx).2
  have := (k.lt x hv).1
  omega
set_option maxRecDepth 100000 in
set_option maxHeartbeats 1000000 in
theorem cloneI_any (A : Option Addr) (l : List Int) (c : Nat) (w : World) (hr : RI w A l) (hn : A = none → l = [] ∧ c = 0) (hl : l.length ≤ 100000) :
    Calls Try.prog 32 #[.slice A l.length c] w (RetI l w) := by
  cases A with
  | none =>
    obtain ⟨rfl, rfl⟩ := hn rfl
    have heq : ∀ W : World, (binOp .eql 22 (.slice none 0 0) (.slice none 0 0)).run Try.prog W = .ok (.bool true) W := fun W => Lib.run_eql_slice_nil W _ _ none _ _ 0 0 Try.underlying22
    go_enter Try.func32, Try.ntmps32
    go_wp2_with fail
    go_ret
    exact RetI.nil (Below.refl _ _)
  | some ad =>
    have Hr := Lib.hid (hr.below (newB w (.cells #[] 3)))
    clear hr hn
    have heq : ∀ W : World, (binOp .eql 22 (.slice (some ad) l.length c) (.slice none 0 0)).run Try.prog W = .ok (.bool false) W := fun W => Lib.run_eql_slice_nil W _ _ (some ad) _ _ 0 0 Try.underlying22
    go_enter Try.func32, Try.ntmps32
    go_wp2_with (at_builtin; refine wpList_appIs (by rfl) _ _ (by rfl) (w.alloc (.cells #[] 3)) w.heap.size _ [] (some ad) l c (own_empty w) Hr.out (by simp) (by rfl) (by rfl) (by simp; omega) (by simp) ?_; intro v' w1 hown hb1 hg1; rw [List.nil_append] at hown; (obtain ⟨A', c', rfl, _, _⟩ := OwnI.form hown); have Hown := Lib.hid hown; clear hown hg1)
    go_ret
    exact RetI.mk Hown.out ((newB w _).trans hb1)
/-- the call returns a new line -/
def RetCo (c : Chn) (w : World) : Ending → World → Prop := fun e w' => ∃ q iv rv hv fv, e = .returned (.pointer (some ⟨q, 0, none⟩)) ∧ LineAt w' w.heap.size q c iv rv hv fv ∧ Below w.heap.size w w'
set_option maxRecDepth 100000 in
set_option maxHeartbeats 8000000 in
theorem copied_any (c : Chn) (I : Option Addr) (ci : Nat) (R : Option Addr) (cr : Nat) (H : Option Addr) (ch : Nat) (F : Option Addr) (cf : Nat) (w : World) (hr : ChR w c I ci R cr H ch F cf) (hli : c.items.length ≤ 100000) (hlr : c.rc.length ≤ 100000) (hlh : c.held.length ≤ 100000) (hlf : c.fl.length ≤ 100000) :
    Calls Try.prog 33 #[.agg #[.slice I c.items.length ci, .int .i64 c.win, .int .i64 c.base, .slice R c.rc.length cr, .slice H c.held.length ch, .slice F c.fl.length cf]] w (RetCo c w) := by
  go_enter Try.func33, Try.ntmps33
  go_upto_region 1 with fail
  obtain ⟨W0, hW, k0, hb0, hs0⟩ := boxedA w 50 #[.slice I c.items.length ci, .int .i64 c.win, .int .i64 c.base, .slice R c.rc.length cr, .slice H c.held.length ch, .slice F c.fl.length cf]
  rw [hW]
  have Hr := Lib.hid (hr.below hb0)
  have Hr0 := Lib.hid hr
  have Hb0 := Lib.hid hb0; have K0 := Lib.hid k0
  have hlt0 : w.heap.size < W0.heap.size := by omega
  have hle0 : w.heap.size ≤ W0.heap.size := by omega
  clear hW hr hb0 k0
  refine wp_region_textZ [1, 2, 5, 7, 9] (fun w' => w'.cell? ⟨w.heap.size, 3, none⟩ = some (.slice R c.rc.length cr)) (fun w' => Blk w' w.heap.size 50 #[.slice I c.items.length ci, .int .i64 c.win, .int .i64 c.base, .slice R c.rc.length cr, .slice H c.held.length ch, .slice F c.fl.length cf] ∧ Below W0.heap.size W0 w') (by kernel_rfl) (by kernel_rfl) (by kernel_rfl) (by kernel_rfl) (dgC K0.out).2.2.2.1 ⟨K0.out, (Below.refl _ _).drew⟩ ?_
  repeat (first
    | (refine TxtZL.skip (by rfl) ?_; simp only [Act.put, List.setIfInBounds_toArray, List.set_cons_zero, List.set_cons_succ])
    | (refine TxtZL.take (by rfl) (by rfl) ?_; apply Exists.intro; refine ⟨fun w1 hS1 => ?_, ?_⟩; (focus (skip; go_simp; with_reducible rfl)); simp only [Act.put, List.setIfInBounds_toArray, List.set_cons_zero, List.set_cons_succ])
    | (refine TxtZL.takeE' (by rfl) (by rfl) ?_; apply Exists.intro; refine ⟨fun w1 hS1 => ?_, ?_⟩; (focus (skip; go_simp; with_reducible rfl)); simp only [Act.put, List.setIfInBounds_toArray, List.set_cons_zero, List.set_cons_succ]))
  refine TxtZL.eff (fun v => v = .slice I c.items.length ci) (fun _ w' => Blk w' w.heap.size 50 #[.slice I c.items.length ci, .int .i64 c.win, .int .i64 c.base, .slice R c.rc.length cr, .slice H c.held.length ch, .slice F c.fl.length cf] ∧ Below W0.heap.size W0 w') (by rfl) (by rfl) ⟨_, rfl⟩ (fun w1 hS1 hJ1 => ?_) ?_
  · obtain ⟨g0, g1, g2, g3, g4, g5⟩ := dgC hJ1.1
    exact Eff.value (by go_simp) ⟨hS1, rfl, hJ1⟩
  rintro v rfl
  simp only [Act.put, List.setIfInBounds_toArray, List.set_cons_zero, List.set_cons_succ]
  refine TxtZL.call (f := 32) (args := #[.slice I c.items.length ci]) (fun u => ∃ I2 ci2, u = Value.slice I2 c.items.length ci2) (fun u w' => OwnI w' W0.heap.size u c.items ∧ Blk w' w.heap.size 50 #[.slice I c.items.length ci, .int .i64 c.win, .int .i64 c.base, .slice R c.rc.length cr, .slice H c.held.length ch, .slice F c.fl.length cf] ∧ Below W0.heap.size W0 w') (by rfl) (by rfl) ⟨_, none, 0, rfl⟩ (fun w1 hS1 hJ1 => by go_simp) (fun w1 hS1 hJ1 => ?_) ?_
  · refine (cloneI_any I c.items ci w1 (Hr.out.below hJ1.2).ri Hr.out.i0 hli).mono ?_
    rintro e w' ⟨A', c', rfl, ho, _, _, hb⟩
    exact ⟨_, rfl, (hb.cell (lt_of_cell hS1)).trans hS1, ⟨A', c', rfl⟩, ho.mono hJ1.2.size, hJ1.1.below hb hJ1.1.lt, hJ1.2.trans (hb.mono hJ1.2.size)⟩
  rintro v ⟨I2, ci2, rfl⟩
  simp only [Act.put, List.setIfInBounds_toArray, List.set_cons_zero, List.set_cons_succ]
  repeat (first
    | (refine TxtZL.skip (by rfl) ?_; simp only [Act.put, List.setIfInBounds_toArray, List.set_cons_zero, List.set_cons_succ])
    | (refine TxtZL.take (by rfl) (by rfl) ?_; apply Exists.intro; refine ⟨fun w1 hS1 => ?_, ?_⟩; (focus ((have g3 := hS1); go_simp; with_reducible rfl)); simp only [Act.put, List.setIfInBounds_toArray, List.set_cons_zero, List.set_cons_succ])
    | (refine TxtZL.takeE' (by rfl) (by rfl) ?_; apply Exists.intro; refine ⟨fun w1 hS1 => ?_, ?_⟩; (focus ((have g3 := hS1); go_simp; with_reducible rfl)); simp only [Act.put, List.setIfInBounds_toArray, List.set_cons_zero, List.set_cons_succ]))
  refine TxtZL.call (f := 32) (args := #[.slice R c.rc.length cr]) (fun u => ∃ R2 cr2, u = Value.slice R2 c.rc.length cr2) (fun u w' => (OwnI w' W0.heap.size (.slice I2 c.items.length ci2) c.items ∧ OwnI w' W0.heap.size u c.rc ∧ ∀ x, (Value.slice I2 c.items.length ci2).ownBlock = some x → u.ownBlock ≠ some x) ∧ Blk w' w.heap.size 50 #[.slice I c.items.length ci, .int .i64 c.win, .int .i64 c.base, .slice R c.rc.length cr, .slice H c.held.length ch, .slice F c.fl.length cf] ∧ Below W0.heap.size W0 w') (by rfl) (by rfl) ⟨_, none, 0, rfl⟩ (fun w1 hS1 hJ1 => by go_simp) (fun w1 hS1 hJ1 => ?_) ?_
  · refine (cloneI_any R c.rc cr w1 (Hr.out.below hJ1.2.2).rr Hr.out.r0 hlr).mono ?_
    rintro e w' ⟨A', c', rfl, ho, _, _, hb⟩
    exact ⟨_, rfl, (hb.cell (lt_of_cell hS1)).trans hS1, ⟨A', c', rfl⟩, ⟨hJ1.1.below hb, ho.mono hJ1.2.2.size, apartI hJ1.1 ho (Nat.le_refl _)⟩, hJ1.2.1.below hb hJ1.2.1.lt, hJ1.2.2.trans (hb.mono hJ1.2.2.size)⟩
  rintro v ⟨R2, cr2, rfl⟩
  simp only [Act.put, List.setIfInBounds_toArray, List.set_cons_zero, List.set_cons_succ]
  repeat (first
    | (refine TxtZL.skip (by rfl) ?_; simp only [Act.put, List.setIfInBounds_toArray, List.set_cons_zero, List.set_cons_succ])
    | (refine TxtZL.take (by rfl) (by rfl) ?_; apply Exists.intro; refine ⟨fun w1 hS1 => ?_, ?_⟩; (focus (skip; go_simp; with_reducible rfl)); simp only [Act.put, List.setIfInBounds_toArray, List.set_cons_zero, List.set_cons_succ])
    | (refine TxtZL.takeE' (by rfl) (by rfl) ?_; apply Exists.intro; refine ⟨fun w1 hS1 => ?_, ?_⟩; (focus (skip; go_simp; with_reducible rfl)); simp only [Act.put, List.setIfInBounds_toArray, List.set_cons_zero, List.set_cons_succ]))
  refine TxtZL.eff (fun u => u = undef) (fun _ w' => (OwnI w' W0.heap.size (.slice I2 c.items.length ci2) c.items ∧ OwnI w' W0.heap.size (.slice R2 c.rc.length cr2) c.rc ∧ ∀ x, (Value.slice I2 c.items.length ci2).ownBlock = some x → (Value.slice R2 c.rc.length cr2).ownBlock ≠ some x) ∧ Blk w' w.heap.size 50 #[.slice I2 c.items.length ci2, .int .i64 c.win, .int .i64 c.base, .slice R c.rc.length cr, .slice H c.held.length ch, .slice F c.fl.length cf] ∧ Below w.heap.size W0 w') (by rfl) (by rfl) ⟨_, rfl⟩ (fun w1 hS1 hJ1 => ?_) ?_
  · have hfz := hJ1.2.1.frozen 0
    obtain ⟨g0, g1, g2, g3, g4, g5⟩ := dgC hJ1.2.1
    have hk := hJ1.2.1.set_ 0 (.slice I2 c.items.length ci2)
    exact Eff.skip (w' := w1.setCell ⟨w.heap.size, 0, none⟩ (.slice I2 c.items.length ci2)) (by go_simp) ⟨(dgC hk).2.2.2.1, rfl, ⟨OwnI.farB hJ1.1.1 hlt0 _, OwnI.farB hJ1.1.2.1 hlt0 _, hJ1.1.2.2⟩, hk, (hJ1.2.2.mono hle0).setCell (p := ⟨w.heap.size, 0, none⟩) (Nat.le_refl _) _⟩
  rintro v rfl
  simp only [Act.put]
  repeat (first
    | (refine TxtZL.skip (by rfl) ?_; simp only [Act.put, List.setIfInBounds_toArray, List.set_cons_zero, List.set_cons_succ])
    | (refine TxtZL.take (by rfl) (by rfl) ?_; apply Exists.intro; refine ⟨fun w1 hS1 => ?_, ?_⟩; (focus (skip; go_simp; with_reducible rfl)); simp only [Act.put, List.setIfInBounds_toArray, List.set_cons_zero, List.set_cons_succ])
    | (refine TxtZL.takeE' (by rfl) (by rfl) ?_; apply Exists.intro; refine ⟨fun w1 hS1 => ?_, ?_⟩; (focus (skip; go_simp; with_reducible rfl)); simp only [Act.put, List.setIfInBounds_toArray, List.set_cons_zero, List.set_cons_succ]))
  refine TxtZL.last (fun w' => (OwnI w' W0.heap.size (.slice I2 c.items.length ci2) c.items ∧ OwnI w' W0.heap.size (.slice R2 c.rc.length cr2) c.rc ∧ ∀ x, (Value.slice I2 c.items.length ci2).ownBlock = some x → (Value.slice R2 c.rc.length cr2).ownBlock ≠ some x) ∧ Blk w' w.heap.size 50 #[.slice I2 c.items.length ci2, .int .i64 c.win, .int .i64 c.base, .slice R2 c.rc.length cr2, .slice H c.held.length ch, .slice F c.fl.length cf] ∧ Below w.heap.size W0 w') (by rfl) (by rfl) (fun w1 hS1 hJ1 => ?_) ?_
  · have hfz := hJ1.2.1.frozen 3
    obtain ⟨g0, g1, g2, g3, g4, g5⟩ := dgC hJ1.2.1
    have hk := hJ1.2.1.set_ 3 (.slice R2 c.rc.length cr2)
    exact Eff.skip (w' := w1.setCell ⟨w.heap.size, 3, none⟩ (.slice R2 c.rc.length cr2)) (by go_simp) ⟨⟨OwnI.farB hJ1.1.1 hlt0 _, OwnI.farB hJ1.1.2.1 hlt0 _, hJ1.1.2.2⟩, hk, hJ1.2.2.setCell (p := ⟨w.heap.size, 3, none⟩) (Nat.le_refl _) _⟩
  rintro v W1 ⟨⟨hi1, hr1, ha1⟩, k1, hb1⟩
  simp only [Act.put]
  have HA := Lib.hid (And.intro hi1 (And.intro hr1 ha1))
  have Hb1 := Lib.hid (Hb0.out.trans hb1)
  have K1 := Lib.hid k1
  have Hr1 := Lib.hid (Hr0.out.below Hb1.out)
  have hs1 : W0.heap.size ≤ W1.heap.size := hb1.size
  have hg1 : w.heap.size < W1.heap.size := k1.lt
  clear hi1 hr1 ha1 k1 hb1 Hr Hr0 Hb0 K0
  go_upto_region 2 with fail
  refine wp_region_textZ [1, 2, 5, 7, 9] (fun w' => w'.cell? ⟨w.heap.size, 5, none⟩ = some (.slice F c.fl.length cf)) (fun w' => Blk w' w.heap.size 50 #[.slice I2 c.items.length ci2, .int .i64 c.win, .int .i64 c.base, .slice R2 c.rc.length cr2, .slice H c.held.length ch, .slice F c.fl.length cf] ∧ Below W1.heap.size W1 w') (by kernel_rfl) (by kernel_rfl) (by kernel_rfl) (by kernel_rfl) (dgC K1.out).2.2.2.2.2 ⟨K1.out, (Below.refl _ _).drew⟩ ?_
  repeat (first
    | (refine TxtZL.skip (by rfl) ?_; simp only [Act.put, List.setIfInBounds_toArray, List.set_cons_zero, List.set_cons_succ])
    | (refine TxtZL.take (by rfl) (by rfl) ?_; apply Exists.intro; refine ⟨fun w1 hS1 => ?_, ?_⟩; (focus (skip; go_simp; with_reducible rfl)); simp only [Act.put, List.setIfInBounds_toArray, List.set_cons_zero, List.set_cons_succ])
    | (refine TxtZL.takeE' (by rfl) (by rfl) ?_; apply Exists.intro; refine ⟨fun w1 hS1 => ?_, ?_⟩; (focus (skip; go_simp; with_reducible rfl)); simp only [Act.put, List.setIfInBounds_toArray, List.set_cons_zero, List.set_cons_succ]))
  refine TxtZL.eff (fun v => v = .slice H c.held.length ch) (fun _ w' => Blk w' w.heap.size 50 #[.slice I2 c.items.length ci2, .int .i64 c.win, .int .i64 c.base, .slice R2 c.rc.length cr2, .slice H c.held.length ch, .slice F c.fl.length cf] ∧ Below W1.heap.size W1 w') (by rfl) (by rfl) ⟨_, rfl⟩ (fun w1 hS1 hJ1 => ?_) ?_
  · obtain ⟨g0, g1, g2, g3, g4, g5⟩ := dgC hJ1.1
    exact Eff.value (by go_simp) ⟨hS1, rfl, hJ1⟩
  rintro v rfl
  simp only [Act.put, List.setIfInBounds_toArray, List.set_cons_zero, List.set_cons_succ]
  refine TxtZL.call (f := 53) (args := #[.slice H c.held.length ch]) (fun u => ∃ H2 ch2, u = Value.slice H2 c.held.length ch2) (fun u w' => OwnK w' W1.heap.size u c.held ∧ Blk w' w.heap.size 50 #[.slice I2 c.items.length ci2, .int .i64 c.win, .int .i64 c.base, .slice R2 c.rc.length cr2, .slice H c.held.length ch, .slice F c.fl.length cf] ∧ Below W1.heap.size W1 w') (by rfl) (by rfl) ⟨_, none, 0, rfl⟩ (fun w1 hS1 hJ1 => by go_simp) (fun w1 hS1 hJ1 => ?_) ?_
  · refine (cloneK_any H c.held ch w1 (Hr1.out.below hJ1.2).rh Hr1.out.h0 hlh).mono ?_
    rintro e w' ⟨A', c', rfl, ho, hb⟩
    exact ⟨_, rfl, (hb.cell (lt_of_cell hS1)).trans hS1, ⟨A', c', rfl⟩, ho.mono hJ1.2.size, hJ1.1.below hb hJ1.1.lt, hJ1.2.trans (hb.mono hJ1.2.size)⟩
  rintro v ⟨H2, ch2, rfl⟩
  simp only [Act.put, List.setIfInBounds_toArray, List.set_cons_zero, List.set_cons_succ]
  repeat (first
    | (refine TxtZL.skip (by rfl) ?_; simp only [Act.put, List.setIfInBounds_toArray, List.set_cons_zero, List.set_cons_succ])
    | (refine TxtZL.take (by rfl) (by rfl) ?_; apply Exists.intro; refine ⟨fun w1 hS1 => ?_, ?_⟩; (focus ((have g3 := hS1); go_simp; with_reducible rfl)); simp only [Act.put, List.setIfInBounds_toArray, List.set_cons_zero, List.set_cons_succ])
    | (refine TxtZL.takeE' (by rfl) (by rfl) ?_; apply Exists.intro; refine ⟨fun w1 hS1 => ?_, ?_⟩; (focus ((have g3 := hS1); go_simp; with_reducible rfl)); simp only [Act.put, List.setIfInBounds_toArray, List.set_cons_zero, List.set_cons_succ]))
  refine TxtZL.call (f := 53) (args := #[.slice F c.fl.length cf]) (fun u => ∃ F2 cf2, u = Value.slice F2 c.fl.length cf2) (fun u w' => (OwnK w' W1.heap.size (.slice H2 c.held.length ch2) c.held ∧ OwnK w' W1.heap.size u c.fl ∧ ∀ x, (Value.slice H2 c.held.length ch2).ownBlock = some x → u.ownBlock ≠ some x) ∧ Blk w' w.heap.size 50 #[.slice I2 c.items.length ci2, .int .i64 c.win, .int .i64 c.base, .slice R2 c.rc.length cr2, .slice H c.held.length ch, .slice F c.fl.length cf] ∧ Below W1.heap.size W1 w') (by rfl) (by rfl) ⟨_, none, 0, rfl⟩ (fun w1 hS1 hJ1 => by go_simp) (fun w1 hS1 hJ1 => ?_) ?_
  · refine (cloneK_any F c.fl cf w1 (Hr1.out.below hJ1.2.2).rf Hr1.out.f0 hlf).mono ?_
    rintro e w' ⟨A', c', rfl, ho, hb⟩
    exact ⟨_, rfl, (hb.cell (lt_of_cell hS1)).trans hS1, ⟨A', c', rfl⟩, ⟨hJ1.1.below hb, ho.mono hJ1.2.2.size, apartK hJ1.1 ho (Nat.le_refl _)⟩, hJ1.2.1.below hb hJ1.2.1.lt, hJ1.2.2.trans (hb.mono hJ1.2.2.size)⟩
  rintro v ⟨F2, cf2, rfl⟩
  simp only [Act.put, List.setIfInBounds_toArray, List.set_cons_zero, List.set_cons_succ]
  repeat (first
    | (refine TxtZL.skip (by rfl) ?_; simp only [Act.put, List.setIfInBounds_toArray, List.set_cons_zero, List.set_cons_succ])
    | (refine TxtZL.take (by rfl) (by rfl) ?_; apply Exists.intro; refine ⟨fun w1 hS1 => ?_, ?_⟩; (focus (skip; go_simp; with_reducible rfl)); simp only [Act.put, List.setIfInBounds_toArray, List.set_cons_zero, List.set_cons_succ])
    | (refine TxtZL.takeE' (by rfl) (by rfl) ?_; apply Exists.intro; refine ⟨fun w1 hS1 => ?_, ?_⟩; (focus (skip; go_simp; with_reducible rfl)); simp only [Act.put, List.setIfInBounds_toArray, List.set_cons_zero, List.set_cons_succ]))
  refine TxtZL.eff (fun u => u = undef) (fun _ w' => (OwnK w' W1.heap.size (.slice H2 c.held.length ch2) c.held ∧ OwnK w' W1.heap.size (.slice F2 c.fl.length cf2) c.fl ∧ ∀ x, (Value.slice H2 c.held.length ch2).ownBlock = some x → (Value.slice F2 c.fl.length cf2).ownBlock ≠ some x) ∧ Blk w' w.heap.size 50 #[.slice I2 c.items.length ci2, .int .i64 c.win, .int .i64 c.base, .slice R2 c.rc.length cr2, .slice H2 c.held.length ch2, .slice F c.fl.length cf] ∧ W1.grownBy w' (some (w.heap.size))) (by rfl) (by rfl) ⟨_, rfl⟩ (fun w1 hS1 hJ1 => ?_) ?_
  · have hfz := hJ1.2.1.frozen 4
    obtain ⟨g0, g1, g2, g3, g4, g5⟩ := dgC hJ1.2.1
    have hk := hJ1.2.1.set_ 4 (.slice H2 c.held.length ch2)
    exact Eff.skip (w' := w1.setCell ⟨w.heap.size, 4, none⟩ (.slice H2 c.held.length ch2)) (by go_simp) ⟨(dgC hk).2.2.2.2.2, rfl, ⟨hJ1.1.1.far (fun e => by have := (hJ1.1.1.lt _ e).1; omega) _ _, hJ1.1.2.1.far (fun e => by have := (hJ1.1.2.1.lt _ e).1; omega) _ _, hJ1.1.2.2⟩, hk, grownBy_trans (grownBy_of_below hJ1.2.2 _) (grownBy_setCell w1 _ _ _)⟩
  rintro v rfl
  simp only [Act.put]
  repeat (first
    | (refine TxtZL.skip (by rfl) ?_; simp only [Act.put, List.setIfInBounds_toArray, List.set_cons_zero, List.set_cons_succ])
    | (refine TxtZL.take (by rfl) (by rfl) ?_; apply Exists.intro; refine ⟨fun w1 hS1 => ?_, ?_⟩; (focus (skip; go_simp; with_reducible rfl)); simp only [Act.put, List.setIfInBounds_toArray, List.set_cons_zero, List.set_cons_succ])
    | (refine TxtZL.takeE' (by rfl) (by rfl) ?_; apply Exists.intro; refine ⟨fun w1 hS1 => ?_, ?_⟩; (focus (skip; go_simp; with_reducible rfl)); simp only [Act.put, List.setIfInBounds_toArray, List.set_cons_zero, List.set_cons_succ]))
  refine TxtZL.last (fun w' => (OwnK w' W1.heap.size (.slice H2 c.held.length ch2) c.held ∧ OwnK w' W1.heap.size (.slice F2 c.fl.length cf2) c.fl ∧ ∀ x, (Value.slice H2 c.held.length ch2).ownBlock = some x → (Value.slice F2 c.fl.length cf2).ownBlock ≠ some x) ∧ Blk w' w.heap.size 50 #[.slice I2 c.items.length ci2, .int .i64 c.win, .int .i64 c.base, .slice R2 c.rc.length cr2, .slice H2 c.held.length ch2, .slice F2 c.fl.length cf2] ∧ W1.grownBy w' (some (w.heap.size))) (by rfl) (by rfl) (fun w1 hS1 hJ1 => ?_) ?_
  · have hfz := hJ1.2.1.frozen 5
    obtain ⟨g0, g1, g2, g3, g4, g5⟩ := dgC hJ1.2.1
    have hk := hJ1.2.1.set_ 5 (.slice F2 c.fl.length cf2)
    exact Eff.skip (w' := w1.setCell ⟨w.heap.size, 5, none⟩ (.slice F2 c.fl.length cf2)) (by go_simp) ⟨⟨hJ1.1.1.far (fun e => by have := (hJ1.1.1.lt _ e).1; omega) _ _, hJ1.1.2.1.far (fun e => by have := (hJ1.1.2.1.lt _ e).1; omega) _ _, hJ1.1.2.2⟩, hk, grownBy_trans hJ1.2.2 (grownBy_setCell w1 _ _ _)⟩
  rintro v W2 ⟨⟨hh2, hf2, ha2⟩, k2, hg2⟩
  simp only [Act.put]
  obtain ⟨g0, g1, g2, g3, g4, g5⟩ := dgC k2
  have hne : ∀ k, (Value.slice I2 c.items.length ci2).ownBlock = some k → some k ≠ some (w.heap.size) := fun k hk e => by injection e with e; have := (World.ownsRow.lt HA.out.1 k hk).1; omega
  have hne2 : ∀ k, (Value.slice R2 c.rc.length cr2).ownBlock = some k → some k ≠ some (w.heap.size) := fun k hk e => by injection e with e; have := (World.ownsRow.lt HA.out.2.1 k hk).1; omega
  have hb2 : Below w.heap.size w W2 := Hb1.out.trans ((Below.refl w.heap.size W1).grown hg2 (by omega) (fun k hk => by injection hk with hk; omega))
  have hl : ∀ q, Blk W2 q 90 #[.slice I2 c.items.length ci2, .int .i64 c.win, .int .i64 c.base, .slice R2 c.rc.length cr2, .slice H2 c.held.length ch2, .slice F2 c.fl.length cf2] → w.heap.size ≤ q → LineAt W2 w.heap.size q c (.slice I2 c.items.length ci2) (.slice R2 c.rc.length cr2) (.slice H2 c.held.length ch2) (.slice F2 c.fl.length cf2) := fun q hq hqw =>
    ⟨hq, hqw, ownsRow_mono (HA.out.1.keptL hg2 hne) (by omega), ownsRow_mono (HA.out.2.1.keptL hg2 hne2) (by omega), hh2.mono (by omega), hf2.mono (by omega), HA.out.2.2, ha2⟩
  have Hk := Lib.hid (show ∀ W3, Below W2.heap.size W2 W3 → ∀ q, Blk W3 q 90 #[.slice I2 c.items.length ci2, .int .i64 c.win, .int .i64 c.base, .slice R2 c.rc.length cr2, .slice H2 c.held.length ch2, .slice F2 c.fl.length cf2] → w.heap.size ≤ q → LineAt W3 w.heap.size q c (.slice I2 c.items.length ci2) (.slice R2 c.rc.length cr2) (.slice H2 c.held.length ch2) (.slice F2 c.fl.length cf2) from fun W3 hb q hq hqw =>
    ⟨hq, hqw, OwnI.below (ownsRow_mono (HA.out.1.keptL hg2 hne) (by omega)) hb, OwnI.below (ownsRow_mono (HA.out.2.1.keptL hg2 hne2) (by omega)) hb, (hh2.mono (by omega)).below hb, (hf2.mono (by omega)).below hb, HA.out.2.2, ha2⟩)
  have Hb2 := Lib.hid hb2
  have hw2 : w.heap.size < W2.heap.size := k2.lt
  clear hh2 hf2 ha2 k2 hg2 hne hne2 hb2 hl HA Hb1 K1 Hr1
  go_wp2_with fail
  go_ret
  exact ⟨_, _, _, _, _, rfl, Hk.out _ (newB _ _) _ (Blk.new _ _ _) (by omega), Hb2.out.trans ((newB _ _).mono (by omega))⟩
theorem below_set6K {B : Nat} {w w' : World} {g : Nat} (h : Below B w w') (hg : B ≤ g) (x0 x1 x2 x3 x4 x5 : Value) : Below B w ((((((w'.setCell ⟨g, 0, none⟩ x0).setCell ⟨g, 1, none⟩ x1).setCell ⟨g, 2, none⟩ x2).setCell ⟨g, 3, none⟩ x3).setCell ⟨g, 4, none⟩ x4).setCell ⟨g, 5, none⟩ x5) :=
  (((((h.setCell (p := ⟨g, 0, none⟩) hg x0).setCell (p := ⟨g, 1, none⟩) hg x1).setCell (p := ⟨g, 2, none⟩) hg x2).setCell (p := ⟨g, 3, none⟩) hg x3).setCell (p := ⟨g, 4, none⟩) hg x4).setCell (p := ⟨g, 5, none⟩) hg x5
/-- a channel of which nothing is sent yet -/
def newC (l : List Int) (n : Int) : Chn := ⟨l, n, 0, [], [], []⟩
theorem newC_ok {l : List Int} {n : Int} (hl : l.length ≤ 60) (h1 : 1 ≤ n) (h8 : n ≤ 8) : CI (newC l n) :=
  ⟨h1, h8, hl, Int.le_refl _, by simp [newC], ⟨Nat.zero_le _, rfl⟩, ⟨List.Pairwise.nil, fun p hp => by cases hp⟩, by simp [newC], fun p hp => by cases hp⟩
/-- the call returns a channel by value, and no error -/
def RetCh (c : Chn) (w : World) : Ending → World → Prop := fun e w' => ∃ I ci R cr H ch F cf, e = .returned (.tuple #[.agg #[.slice I c.items.length ci, .int .i64 c.win, .int .i64 c.base, .slice R c.rc.length cr, .slice H c.held.length ch, .slice F c.fl.length cf], .int .i64 0]) ∧ ChR w' c I ci R cr H ch F cf ∧ ChG w.heap.size I R H F ∧ Below w.heap.size w w'
set_option maxRecDepth 100000 in
set_option maxHeartbeats 2000000 in
theorem chNew_any (A : Option Addr) (l : List Int) (k : Nat) (n : Int) (w : World) (hr : RI w A l) (hn : A = none → l = [] ∧ k = 0) (hl : l.length ≤ 60) (h1 : 1 ≤ n) (h8 : n ≤ 8) :
    Calls Try.prog 13 #[.slice A l.length k, .int .i64 n] w (RetCh (newC l n) w) := by
  have hd0 : ¬ (60 : Int) < (l.length : Int) := by omega
  have hd1 : ¬ n < 1 := by omega
  have hd2 : ¬ (8 : Int) < n := by omega
  go_enter Try.func13, Try.ntmps13
  go_upto_region 1 with fail
  obtain ⟨W0, hW, k0, hb0, hs0⟩ := boxedA w 50 #[.slice none 0 0, .int .i64 0, .int .i64 0, .slice none 0 0, .slice none 0 0, .slice none 0 0]
  rw [hW]
  have hr0 := hr.below hb0
  clear hW hr
  go_wp2_with fail
  refine (cloneI_any A l k W0 hr0 hn (by omega)).mono ?_
  rintro e w1 ⟨A', c', rfl, ho, _, _, hb1⟩
  have k1 := k0.below hb1 (by omega)
  obtain ⟨f0, f1, f2, f3, f4, f5⟩ := dgF k1
  obtain ⟨g0, g1, g2, g3, g4, g5⟩ := dgC k1
  have k2 := set6 k1 (.slice A' l.length c') (.int .i64 n) (.int .i64 0) (.slice none 0 0) (.slice none 0 0) (.slice none 0 0)
  have K2 := Lib.hid k2; have Ho := Lib.hid ho
  have Hb := Lib.hid (endB hb0 hb1)
  clear k0 k1 k2 ho hb0 hb1 hr0
  go_wp2_with fail
  obtain ⟨r0, r1, r2, r3, r4, r5⟩ := dgC K2.out
  have hlt0 : w.heap.size < W0.heap.size := by omega
  have hb9 : w.heap.size ≤ W0.heap.size := by omega
  have ho2 := OwnI.farB (OwnI.farB (OwnI.farB (OwnI.farB (OwnI.farB (OwnI.farB Ho.out (a := ⟨w.heap.size, 0, none⟩) hlt0 (.slice A' l.length c')) (a := ⟨w.heap.size, 1, none⟩) hlt0 (.int .i64 n)) (a := ⟨w.heap.size, 2, none⟩) hlt0 (.int .i64 0)) (a := ⟨w.heap.size, 3, none⟩) hlt0 (.slice none 0 0)) (a := ⟨w.heap.size, 4, none⟩) hlt0 (.slice none 0 0)) (a := ⟨w.heap.size, 5, none⟩) hlt0 (.slice none 0 0)
  obtain ⟨A2, c2, e, hr2, hn2⟩ := OwnI.form2 ho2
  injection e with e1 _ e2
  subst e1 e2
  refine bodyPost_ret (v := .tuple #[.agg #[.slice A' l.length c', .int .i64 n, .int .i64 0, .slice none 0 0, .slice none 0 0, .slice none 0 0], .int .i64 0]) (by simp [results, Try.results13, go_sem, r0, r1, r2, r3, r4, r5]) rfl ?_
  exact ⟨A', c', none, 0, none, 0, none, 0, rfl, ⟨hr2, hn2, RI.nil _ _, fun _ => ⟨rfl, rfl⟩, RK.nil _ _, fun _ => ⟨rfl, rfl⟩, RK.nil _ _, fun _ => ⟨rfl, rfl⟩⟩, ⟨fun b o e => Nat.le_trans hb9 (World.ownsRow.lt Ho.out b (by rw [e]; rfl)).1, (fun b o e => by cases e), (fun b o e => by cases e), (fun b o e => by cases e)⟩, below_set6K Hb.out (Nat.le_refl _) _ _ _ _ _ _⟩
set_option maxHeartbeats 2000000 in
theorem done_any (c : Chn) (I : Option Addr) (ci : Nat) (R : Option Addr) (cr : Nat) (H : Option Addr) (ch : Nat) (F : Option Addr) (cf : Nat) (w : World) :
    Calls Try.prog 21 #[.agg #[.slice I c.items.length ci, .int .i64 c.win, .int .i64 c.base, .slice R c.rc.length cr, .slice H c.held.length ch, .slice F c.fl.length cf]] w (RetB (.bool (c.base == (c.items.length : Int))) w) := by
  go_enter Try.func21, Try.ntmps21
  go_upto_region 1 with fail
  obtain ⟨W0, hW, k0, hb0, hs0⟩ := boxedA w 50 #[.slice I c.items.length ci, .int .i64 c.win, .int .i64 c.base, .slice R c.rc.length cr, .slice H c.held.length ch, .slice F c.fl.length cf]
  rw [hW]
  obtain ⟨g0, g1, g2, g3, g4, g5⟩ := dgC k0
  clear hW k0
  go_wp2_with fail
  go_ret
  exact ⟨rfl, hb0⟩
end Go.Proofs.Ythkknlnfdckdfaa
