/- Package participant: Run. (The region of two orders is printed by gen_prun.py.) -/
import Derived.Test.YthkknlnfdckdfaaPn5
namespace Go.Proofs.Ythkknlnfdckdfaa
open Go.ChangeShapes Go.WideShapes Go.ChangeAt Go.RowKit

theorem RP.grownQ {w w' : World} {A : Option Addr} {l : List (Int × Int)} {p : Nat} (h : RP w A l) (hg : w.grownBy w' (some p)) (hp : ∀ b o, A = some ⟨b, o, none⟩ → 0 < l.length → b ≠ p) : RP w' A l := by
  intro k hk
  obtain ⟨b, o, hA, hc, hd⟩ := h k hk
  have hne := hp b o hA (by omega)
  have e := fun (i : Nat) (v : Value) (hc : w.cell? ⟨b, i, none⟩ = some v) => show w'.cell? ⟨b, i, none⟩ = some v by
    rw [← hc]; unfold World.cell?; rw [show w'.heap[b]? = w.heap[b]? from hg.block b (lt_of_cell hc) (fun e => by injection e with e; exact hne e)]
  exact ⟨b, o, hA, e _ _ hc, e _ _ hd⟩
theorem near_setp {p base : Nat} {a w : World} (h : Near p base a w) (i : Nat) (v : Value) : Near p base a (w.setCell ⟨p, i, none⟩ v) :=
  h.trans ⟨rfl, rfl, rfl, by simp, fun k _ hk => Below.heap_setCell w _ _ k hk⟩
theorem near_set6 {p base : Nat} {a w : World} (h : Near p base a w) (x0 x1 x2 x3 x4 x5 : Value) : Near p base a ((((((w.setCell ⟨p, 0, none⟩ x0).setCell ⟨p, 1, none⟩ x1).setCell ⟨p, 2, none⟩ x2).setCell ⟨p, 3, none⟩ x3).setCell ⟨p, 4, none⟩ x4).setCell ⟨p, 5, none⟩ x5) :=
  near_setp (near_setp (near_setp (near_setp (near_setp (near_setp h 0 x0) 1 x1) 2 x2) 3 x3) 4 x4) 5 x5
theorem boxed4A (w : World) (t u v x : TypeId) (cs ds es fs : Array Value) : ∃ W0, (((w.alloc (.cells cs t)).alloc (.cells ds u)).alloc (.cells es v)).alloc (.cells fs x) = W0 ∧ Blk W0 w.heap.size t cs ∧ Blk W0 (w.heap.size + 1) u ds ∧ Blk W0 (w.heap.size + 2) v es ∧ Blk W0 (w.heap.size + 3) x fs ∧ Below w.heap.size w W0 ∧ W0.heap.size = w.heap.size + 4 := by
  obtain ⟨W, hW, h1, h2, h3, hb, hs⟩ := boxed3A w t u v cs ds es
  rw [hW]
  refine ⟨_, rfl, h1.alloc _, h2.alloc _, h3.alloc _, ?_, hb.alloc hb.size _, by simp [hs]⟩
  have := Blk.new W x fs
  rwa [hs] at this
theorem plC {w : World} {g : Nat} {t : TypeId} {x0 x1 x2 x3 x4 x5 x6 x7 : Value} (h : Blk w g t #[x0, x1, x2, x3, x4, x5, x6, x7]) : w.cell? ⟨g, 0, none⟩ = some x0 ∧ w.cell? ⟨g, 1, none⟩ = some x1 ∧ w.cell? ⟨g, 2, none⟩ = some x2 ∧ w.cell? ⟨g, 3, none⟩ = some x3 ∧ w.cell? ⟨g, 4, none⟩ = some x4 ∧ w.cell? ⟨g, 5, none⟩ = some x5 ∧ w.cell? ⟨g, 6, none⟩ = some x6 ∧ w.cell? ⟨g, 7, none⟩ = some x7 :=
  ⟨by rw [h.cell]; rfl, by rw [h.cell]; rfl, by rw [h.cell]; rfl, by rw [h.cell]; rfl, by rw [h.cell]; rfl, by rw [h.cell]; rfl, by rw [h.cell]; rfl, by rw [h.cell]; rfl⟩
/-- the dialogue of a run, in its variable -/
structure RunS (G B : Nat) (W : World) (n : Nat) (l : List (Int × Int)) (root l0 l1 : Int) (ms : List Mv) (A1 : Option Addr) (c1 : Nat) (M1 : Option Addr) (cm1 : Nat) (w : World) : Prop where
  blk : Blk w G 34 #[.int .i64 (n : Int), .slice A1 l.length c1, .int .i64 root, .int .i64 l0, .int .i64 l1, .slice M1 ms.length cm1]
  op : OwnP w B (.slice A1 l.length c1) l
  om : OwnM w B (.slice M1 ms.length cm1) ms
  near : Near G B W w
theorem RunS.below {G B : Nat} {W : World} {n : Nat} {l : List (Int × Int)} {root l0 l1 : Int} {ms : List Mv} {A1 : Option Addr} {c1 : Nat} {M1 : Option Addr} {cm1 : Nat} {w w' : World} (h : RunS G B W n l root l0 l1 ms A1 c1 M1 cm1 w) (hB : B ≤ w.heap.size) (hb : Below w.heap.size w w') : RunS G B W n l root l0 l1 ms A1 c1 M1 cm1 w' :=
  ⟨h.blk.below hb h.blk.lt, ownsRow_below h.op hb, h.om.below hb, h.near.trans (Near.of_below (hb.mono hB))⟩
theorem RunS.rp {G B : Nat} {W : World} {n : Nat} {l : List (Int × Int)} {root l0 l1 : Int} {ms : List Mv} {A1 : Option Addr} {c1 : Nat} {M1 : Option Addr} {cm1 : Nat} {w : World} (h : RunS G B W n l root l0 l1 ms A1 c1 M1 cm1 w) : RP w A1 l := by
  obtain ⟨A', c', e', hr, _⟩ := OwnP.form2 h.op
  injection e' with e1 _ _
  rw [e1]; exact hr
theorem RunS.rm {G B : Nat} {W : World} {n : Nat} {l : List (Int × Int)} {root l0 l1 : Int} {ms : List Mv} {A1 : Option Addr} {c1 : Nat} {M1 : Option Addr} {cm1 : Nat} {w : World} (h : RunS G B W n l root l0 l1 ms A1 c1 M1 cm1 w) : RM w M1 ms := by
  obtain ⟨A', c', e', hr, _, _⟩ := h.om.form
  injection e' with e1 _ _
  rw [e1]; exact hr
theorem near_below {p B : Nat} {a w : World} (h : Near p B a w) (hp : p < B) : Below p a w := ⟨h.os, h.tape, h.output, h.size, fun k hk => h.block k (by omega) (by omega)⟩
/-- how many moves may still come, read from the dialogue's variable -/
def lenW (G : Nat) (w : World) : Nat := match w.cell? ⟨G, 5, none⟩ with
  | some (.slice _ k _) => 201 - k
  | _ => 0
theorem lenW_eq {G : Nat} {w : World} {A : Option Addr} {k c : Nat} (h : w.cell? ⟨G, 5, none⟩ = some (.slice A k c)) : lenW G w = 201 - k := by unfold lenW; rw [h]
/-- the call returns the dialogue at its end -/
def RetRun (n : Nat) (l : List (Int × Int)) (root l0 l1 : Int) (ms : List Mv) (w : World) : Ending → World → Prop := RetApl n l root l0 l1 ms w
theorem turn_012 (l0 l1 : Int) (l : List (Int × Int)) (ms : List Mv) : turnF l0 l1 l ms = 0 ∨ turnF l0 l1 l ms = 1 ∨ turnF l0 l1 l ms = 2 := by
  unfold turnF
  split
  · rcases leadr_12 ms with e | e <;> rw [e] <;> simp
  · exact .inl rfl
set_option maxRecDepth 100000 in
set_option maxHeartbeats 16000000 in
theorem run_any (n : Nat) (A : Option Addr) (l : List (Int × Int)) (c : Nat) (root l0 l1 : Int) (M : Option Addr) (ms0 : List Mv) (cm : Nat) (P1 : Option Addr) (pool1 : List Int) (pc1 : Nat) (sty1 : Int) (P2 : Option Addr) (pool2 : List Int) (pc2 : Nat) (sty2 : Int) (w : World)
    (hp : RP w A l) (hA : A = none → l = [] ∧ c = 0) (hv : InR n l) (hll : l.length ≤ 1600) (hr : RM w M ms0) (hm : OkM ms0) (hl : ms0.length ≤ 200) (hpo1 : RI w P1 pool1) (hpl1 : pool1.length ≤ 100000) (ha1 : AscP n pool1) (h1a : 1 ≤ sty1) (h1b : sty1 ≤ 3) (hpo2 : RI w P2 pool2) (hpl2 : pool2.length ≤ 100000) (ha2 : AscP n pool2) (h2a : 1 ≤ sty2) (h2b : sty2 ≤ 3) :
    Calls Try.prog 9 #[.agg #[.int .i64 (n : Int), .slice A l.length c, .int .i64 root, .int .i64 l0, .int .i64 l1, .slice M ms0.length cm], .agg #[.slice P1 pool1.length pc1, .slice none 0 0, .slice none 0 0, .int .i64 sty1], .agg #[.slice P2 pool2.length pc2, .slice none 0 0, .slice none 0 0, .int .i64 sty2]] w (RetRun n l root l0 l1 (runG l0 l1 l pool1 pool2 sty1 sty2 200 ms0) w) := by
  have hpos := hm.pos
  have hMn : M = none → ms0 = [] ∧ cm = 0 := fun e => by obtain ⟨b', o', e', _⟩ := hr 0 hpos; rw [e] at e'; cases e'
  have Hm := Lib.hid hm; have Hv := Lib.hid hv; have HA := Lib.hid hA; have HMn := Lib.hid hMn
  have Hp := Lib.hid hp; have Hr := Lib.hid hr; have Hp1 := Lib.hid hpo1; have Hp2 := Lib.hid hpo2; have Ha1 := Lib.hid ha1; have Ha2 := Lib.hid ha2
  have hidx1 := run_index_a P1 P2 pool1.length pc1 pool2.length pc2 sty1 sty2
  have hidx2 := run_index_b P1 P2 pool1.length pc1 pool2.length pc2 sty1 sty2
  clear hm hv hA hMn hp hr hpo1 hpo2 ha1 ha2
  go_enter Try.func9, Try.ntmps9
  go_upto_region 1 with fail
  obtain ⟨W0, hW, k0, k1, k2, k3, hb0, hs0⟩ := boxed4A w 34 41 41 34 #[.int .i64 (n : Int), .slice A l.length c, .int .i64 root, .int .i64 l0, .int .i64 l1, .slice M ms0.length cm] #[.slice P1 pool1.length pc1, .slice none 0 0, .slice none 0 0, .int .i64 sty1] #[.slice P2 pool2.length pc2, .slice none 0 0, .slice none 0 0, .int .i64 sty2] #[.int .i64 0, .slice none 0 0, .int .i64 0, .int .i64 0, .int .i64 0, .slice none 0 0]
  rw [hW]
  obtain ⟨z0, z1, z2, z3, z4, z5⟩ := dgC k0
  obtain ⟨x0, x1, x2, x3, _, _, _, _⟩ := mvC k1
  obtain ⟨y0, y1, y2, y3, _, _, _, _⟩ := mvC k2
  clear hW
  go_upto_region 2 with fail
  obtain ⟨W1, hW1, k8, hb1, hs1⟩ := boxedA W0 78 #[.slice P1 pool1.length pc1, .slice none 0 0, .slice none 0 0, .int .i64 sty1, .slice P2 pool2.length pc2, .slice none 0 0, .slice none 0 0, .int .i64 sty2]
  rw [hW1]
  rw [hs0] at k8
  have kd := k0.below hb1 (by omega)
  have Kt := Lib.hid (k3.below hb1 (by omega))
  obtain ⟨d0, d1, d2, d3, d4, d5⟩ := dgC kd
  obtain ⟨a0, a1, a2, a3, a4, a5, a6, a7⟩ := plC k8
  have Hbb := Lib.hid (endB hb0 hb1)
  have Kd := Lib.hid kd; have K8 := Lib.hid k8
  have hg1 : w.heap.size + 4 < W1.heap.size := by omega
  clear k0 k1 k2 k3 hb0 hb1 hW1 z0 z1 z2 z3 z4 z5 x0 x1 x2 x3 y0 y1 y2 y3 kd k8
  go_wp2_with fail
  -- both players are valid
  go_loopw [19] (fun t wr => ∃ k : Nat, k ≤ 2 ∧ t = .int .i64 k ∧ Below W1.heap.size W1 wr) (fun t _ => 2 - (intOf t).toNat)
  case atStart => exact ⟨0, by omega, rfl, Below.refl _ _⟩
  case round =>
    obtain ⟨k, hk, rfl, hbl⟩ := hrel
    have hbs := hbl.size
    have h012 : k = 0 ∨ k = 1 ∨ k = 2 := by omega
    rcases h012 with rfl | rfl | rfl
    · have d0 := (hbl.cell (lt_of_cell d0)).trans d0
      have d1 := (hbl.cell (lt_of_cell d1)).trans d1
      have d2 := (hbl.cell (lt_of_cell d2)).trans d2
      have d3 := (hbl.cell (lt_of_cell d3)).trans d3
      have d4 := (hbl.cell (lt_of_cell d4)).trans d4
      have d5 := (hbl.cell (lt_of_cell d5)).trans d5
      go_upto_region 5 with fail
      obtain ⟨wa, hwa, ka, hba, hsa⟩ := boxedA wr 41 #[.slice P1 pool1.length pc1, .slice none 0 0, .slice none 0 0, .int .i64 sty1]
      rw [hwa]
      obtain ⟨u0, u1, u2, u3, _, _, _, _⟩ := mvC ka
      have d0 := (hba.cell (lt_of_cell d0)).trans d0
      have d1 := (hba.cell (lt_of_cell d1)).trans d1
      have d2 := (hba.cell (lt_of_cell d2)).trans d2
      have d3 := (hba.cell (lt_of_cell d3)).trans d3
      have d4 := (hba.cell (lt_of_cell d4)).trans d4
      have d5 := (hba.cell (lt_of_cell d5)).trans d5
      have hbla := hbl.trans (hba.mono hbs)
      clear hwa ka hbl hba hsa
      go_wp2_with fail
      refine (pvalid_any n A l.length c root l0 l1 M ms0.length cm P1 pool1 pc1 sty1 wa (Hp1.out.below (Hbb.out.trans (hbla.mono Hbb.out.size))) hpl1 Ha1.out h1a h1b).mono ?_
      rintro e w3 ⟨rfl, hb3⟩
      have Hb3 := Lib.hid (hbla.trans (hb3.mono hbla.size))
      clear hb3 hbla
      go_wp2_with fail
      go_roundw
      case rel => exact ⟨1, by omega, by first | rfl | go_num, Hb3.out⟩
      case measure => simp [intOf]
    · have d0 := (hbl.cell (lt_of_cell d0)).trans d0
      have d1 := (hbl.cell (lt_of_cell d1)).trans d1
      have d2 := (hbl.cell (lt_of_cell d2)).trans d2
      have d3 := (hbl.cell (lt_of_cell d3)).trans d3
      have d4 := (hbl.cell (lt_of_cell d4)).trans d4
      have d5 := (hbl.cell (lt_of_cell d5)).trans d5
      go_upto_region 5 with fail
      obtain ⟨wa, hwa, ka, hba, hsa⟩ := boxedA wr 41 #[.slice P2 pool2.length pc2, .slice none 0 0, .slice none 0 0, .int .i64 sty2]
      rw [hwa]
      obtain ⟨u0, u1, u2, u3, _, _, _, _⟩ := mvC ka
      have d0 := (hba.cell (lt_of_cell d0)).trans d0
      have d1 := (hba.cell (lt_of_cell d1)).trans d1
      have d2 := (hba.cell (lt_of_cell d2)).trans d2
      have d3 := (hba.cell (lt_of_cell d3)).trans d3
      have d4 := (hba.cell (lt_of_cell d4)).trans d4
      have d5 := (hba.cell (lt_of_cell d5)).trans d5
      have hbla := hbl.trans (hba.mono hbs)
      clear hwa ka hbl hba hsa
      go_wp2_with fail
      refine (pvalid_any n A l.length c root l0 l1 M ms0.length cm P2 pool2 pc2 sty2 wa (Hp2.out.below (Hbb.out.trans (hbla.mono Hbb.out.size))) hpl2 Ha2.out h2a h2b).mono ?_
      rintro e w3 ⟨rfl, hb3⟩
      have Hb3 := Lib.hid (hbla.trans (hb3.mono hbla.size))
      clear hb3 hbla
      go_wp2_with fail
      go_roundw
      case rel => exact ⟨2, by omega, by first | rfl | go_num, Hb3.out⟩
      case measure => simp [intOf]
    · rw [show ((2 : Nat) : Int) = 2 from rfl]
      obtain ⟨wb, hwb⟩ : ∃ wb, wb = wr := ⟨_, rfl⟩
      subst hwb
      have hG : w.heap.size < wb.heap.size := by omega
      have kd := Kd.out.below hbl (by omega)
      have Kt2 := Lib.hid (Kt.out.below hbl (by omega)); have K82 := Lib.hid (K8.out.below hbl (by omega))
      have Hbw := Lib.hid (Hbb.out.trans (hbl.mono Hbb.out.size))
      have hAp : ∀ b o, A = some ⟨b, o, none⟩ → 0 < l.length → b ≠ w.heap.size := fun b o e h0 => by
        obtain ⟨b', o', e', h1, _⟩ := Hp.out 0 h0
        rw [e] at e'; injection e' with e'; injection e' with e1 _ _
        rw [e1]; exact Nat.ne_of_lt (lt_of_cell h1)
      have hMp : ∀ b o, M = some ⟨b, o, none⟩ → b ≠ w.heap.size := fun b o e => by
        obtain ⟨b', o', e', h1, _⟩ := Hr.out 0 hpos
        rw [e] at e'; injection e' with e'; injection e' with e1 _ _
        rw [e1]; exact Nat.ne_of_lt (lt_of_cell h1)
      have HAp := Lib.hid hAp; have HMp := Lib.hid hMp
      have hpb := Hp.out.below Hbw.out; have hrb := Hr.out.below Hbw.out
      clear hAp hMp Kd Kt K8 d0 d1 d2 d3 d4 d5 a0 a1 a2 a3 a4 a5 a6 a7 hidx1 hidx2 hbl
      go_upto_region 9 with fail
      refine wp_region_textZ [2, 3, 6, 9, 11] (fun w' => Near w.heap.size wb.heap.size wb w' ∧ w'.cell? ⟨w.heap.size, 5, none⟩ = some (.slice M ms0.length cm)) (fun w' => Blk w' w.heap.size 34 #[.int .i64 (n : Int), .slice A l.length c, .int .i64 root, .int .i64 l0, .int .i64 l1, .slice M ms0.length cm]) (by kernel_rfl) (by kernel_rfl) (by kernel_rfl) (by kernel_rfl) ⟨Near.of_below (Below.refl _ _).drew, (kd.below (Below.refl _ _).drew hG).cell 5⟩ (kd.below (Below.refl _ _).drew hG) ?_
      repeat (first
        | (refine TxtZL.skip (by rfl) ?_; simp only [Act.put, List.setIfInBounds_toArray, List.set_cons_zero, List.set_cons_succ])
        | (refine TxtZL.take (by rfl) (by rfl) ?_; apply Exists.intro; refine ⟨fun w1 hS1 => ?_, ?_⟩; (focus (skip; go_simp; with_reducible rfl)); simp only [Act.put, List.setIfInBounds_toArray, List.set_cons_zero, List.set_cons_succ])
        | (refine TxtZL.takeE' (by rfl) (by rfl) ?_; apply Exists.intro; refine ⟨fun w1 hS1 => ?_, ?_⟩; (focus (skip; go_simp; with_reducible rfl)); simp only [Act.put, List.setIfInBounds_toArray, List.set_cons_zero, List.set_cons_succ]))
      refine TxtZL.value (fun v => v = .slice A l.length c) (fun _ w' => Blk w' w.heap.size 34 #[.int .i64 (n : Int), .slice A l.length c, .int .i64 root, .int .i64 l0, .int .i64 l1, .slice M ms0.length cm]) (by rfl) (by rfl) ⟨_, rfl⟩ (fun w1 hS1 hJ1 => by
        have c1 : w1.cell? ⟨w.heap.size, 1, none⟩ = some (.slice A l.length c) := hJ1.cell 1
        exact ⟨_, w1, by go_simp, hS1, rfl, hJ1⟩) ?_
      rintro _ rfl
      simp only [Act.put, List.setIfInBounds_toArray, List.set_cons_zero, List.set_cons_succ]
      repeat (first
        | (refine TxtZL.skip (by rfl) ?_; simp only [Act.put, List.setIfInBounds_toArray, List.set_cons_zero, List.set_cons_succ])
        | (refine TxtZL.take (by rfl) (by rfl) ?_; apply Exists.intro; refine ⟨fun w1 hS1 => ?_, ?_⟩; (focus (skip; go_simp; with_reducible rfl)); simp only [Act.put, List.setIfInBounds_toArray, List.set_cons_zero, List.set_cons_succ])
        | (refine TxtZL.takeE' (by rfl) (by rfl) ?_; apply Exists.intro; refine ⟨fun w1 hS1 => ?_, ?_⟩; (focus (skip; go_simp; with_reducible rfl)); simp only [Act.put, List.setIfInBounds_toArray, List.set_cons_zero, List.set_cons_succ]))
      refine TxtZL.call (f := 24) (args := #[.slice A l.length c]) (fun u => ∃ A1 c1, u = Value.slice A1 l.length c1) (fun u w' => Blk w' w.heap.size 34 #[.int .i64 (n : Int), .slice A l.length c, .int .i64 root, .int .i64 l0, .int .i64 l1, .slice M ms0.length cm] ∧ OwnP w' wb.heap.size u l) (by rfl) (by rfl) ⟨_, none, 0, rfl⟩ (fun w1 hS1 hJ1 => by go_simp) (fun w1 hS1 hJ1 => ?_) ?_
      · refine (clonePs_any A l c w1 (hpb.grownQ hS1.1.grown HAp.out) HA.out (by omega)).mono ?_
        rintro e w' ⟨A1, c1, rfl, ho, hb⟩
        exact ⟨_, rfl, ⟨hS1.1.trans (Near.of_below (hb.mono hS1.1.size)), (hb.cell (lt_of_cell hS1.2)).trans hS1.2⟩, ⟨A1, c1, rfl⟩, hJ1.below hb hJ1.lt, ownsRow_mono ho hS1.1.size⟩
      rintro _ ⟨A1, c1, rfl⟩
      simp only [Act.put, List.setIfInBounds_toArray, List.set_cons_zero, List.set_cons_succ]
      repeat (first
        | (refine TxtZL.skip (by rfl) ?_; simp only [Act.put, List.setIfInBounds_toArray, List.set_cons_zero, List.set_cons_succ])
        | (refine TxtZL.take (by rfl) (by rfl) ?_; apply Exists.intro; refine ⟨fun w1 hS1 => ?_, ?_⟩; (focus ((have g5 := hS1.2); go_simp; with_reducible rfl)); simp only [Act.put, List.setIfInBounds_toArray, List.set_cons_zero, List.set_cons_succ])
        | (refine TxtZL.takeE' (by rfl) (by rfl) ?_; apply Exists.intro; refine ⟨fun w1 hS1 => ?_, ?_⟩; (focus ((have g5 := hS1.2); go_simp; with_reducible rfl)); simp only [Act.put, List.setIfInBounds_toArray, List.set_cons_zero, List.set_cons_succ]))
      refine TxtZL.call (f := 28) (args := #[.slice M ms0.length cm]) (fun u => ∃ M1 cm1, u = Value.slice M1 ms0.length cm1) (fun u w' => Blk w' w.heap.size 34 #[.int .i64 (n : Int), .slice A l.length c, .int .i64 root, .int .i64 l0, .int .i64 l1, .slice M ms0.length cm] ∧ OwnP w' wb.heap.size (.slice A1 l.length c1) l ∧ OwnM w' wb.heap.size u ms0) (by rfl) (by rfl) ⟨_, none, 0, rfl⟩ (fun w1 hS1 hJ1 => by go_simp) (fun w1 hS1 hJ1 => ?_) ?_
      · refine (cloneM_any M ms0 cm w1 (hrb.grown hS1.1.grown HMp.out) HMn.out (by omega)).mono ?_
        rintro e w' ⟨M1, cm1, rfl, ho, hb⟩
        exact ⟨_, rfl, ⟨hS1.1.trans (Near.of_below (hb.mono hS1.1.size)), (hb.cell (lt_of_cell hS1.2)).trans hS1.2⟩, ⟨M1, cm1, rfl⟩, hJ1.1.below hb hJ1.1.lt, ownsRow_below hJ1.2 hb, ho.mono hS1.1.size⟩
      rintro _ ⟨M1, cm1, rfl⟩
      simp only [Act.put, List.setIfInBounds_toArray, List.set_cons_zero, List.set_cons_succ]
      repeat (first
        | (refine TxtZL.skip (by rfl) ?_; simp only [Act.put, List.setIfInBounds_toArray, List.set_cons_zero, List.set_cons_succ])
        | (refine TxtZL.take (by rfl) (by rfl) ?_; apply Exists.intro; refine ⟨fun w1 hS1 => ?_, ?_⟩; (focus (skip; go_simp; with_reducible rfl)); simp only [Act.put, List.setIfInBounds_toArray, List.set_cons_zero, List.set_cons_succ])
        | (refine TxtZL.takeE' (by rfl) (by rfl) ?_; apply Exists.intro; refine ⟨fun w1 hS1 => ?_, ?_⟩; (focus (skip; go_simp; with_reducible rfl)); simp only [Act.put, List.setIfInBounds_toArray, List.set_cons_zero, List.set_cons_succ]))
      refine TxtZL.eff (fun v => v = undef) (fun _ w' => Blk w' w.heap.size 34 #[.int .i64 (n : Int), .slice A1 l.length c1, .int .i64 root, .int .i64 l0, .int .i64 l1, .slice M ms0.length cm] ∧ OwnP w' wb.heap.size (.slice A1 l.length c1) l ∧ OwnM w' wb.heap.size (.slice M1 ms0.length cm1) ms0) (by rfl) (by rfl) ⟨_, rfl⟩ (fun w1 hS1 hJ1 => ?_) ?_
      · have cc1 : w1.cell? ⟨w.heap.size, 1, none⟩ = some (.slice A l.length c) := hJ1.1.cell 1
        have f1 := hJ1.1.frozen 1
        exact Eff.skip (w' := w1.setCell ⟨w.heap.size, 1, none⟩ (.slice A1 l.length c1)) (by go_simp) ⟨⟨near_setp hS1.1 1 _, (cell_co (by decide)).trans hS1.2⟩, rfl, hJ1.1.set_ 1 _, own_far hJ1.2.1 hG 1 _, own_far hJ1.2.2 hG 1 _⟩
      rintro _ rfl
      simp only [Act.put]
      repeat (first
        | (refine TxtZL.skip (by rfl) ?_; simp only [Act.put, List.setIfInBounds_toArray, List.set_cons_zero, List.set_cons_succ])
        | (refine TxtZL.take (by rfl) (by rfl) ?_; apply Exists.intro; refine ⟨fun w1 hS1 => ?_, ?_⟩; (focus (skip; go_simp; with_reducible rfl)); simp only [Act.put, List.setIfInBounds_toArray, List.set_cons_zero, List.set_cons_succ])
        | (refine TxtZL.takeE' (by rfl) (by rfl) ?_; apply Exists.intro; refine ⟨fun w1 hS1 => ?_, ?_⟩; (focus (skip; go_simp; with_reducible rfl)); simp only [Act.put, List.setIfInBounds_toArray, List.set_cons_zero, List.set_cons_succ]))
      refine TxtZL.last (fun w' => RunS w.heap.size wb.heap.size wb n l root l0 l1 ms0 A1 c1 M1 cm1 w') (by rfl) (by rfl) (fun w1 hS1 hJ1 => ?_) ?_
      · have c5 := hS1.2
        have f5 := hJ1.1.frozen 5
        exact Eff.skip (w' := w1.setCell ⟨w.heap.size, 5, none⟩ (.slice M1 ms0.length cm1)) (by go_simp) ⟨hJ1.1.set_ 5 _, own_far hJ1.2.1 hG 5 _, own_far hJ1.2.2 hG 5 _, near_setp hS1.1 5 _⟩
      rintro _ w5 hS5
      simp only [Act.put]
      have hA1 : A1 = none → l = [] ∧ c1 = 0 := fun en => by
        obtain ⟨A', c', e', _, hn⟩ := OwnP.form2 hS5.op
        injection e' with e1 _ e2
        subst e1 e2
        exact hn en
      clear kd hpb hrb
      go_wp2_with fail
      go_loopw [12] (fun t wr => ∃ (tv : Value) (ms : List Mv) (f : Nat) (A1 : Option Addr) (c1 : Nat) (M1 : Option Addr) (cm1 : Nat), t = tv ∧ OkM ms ∧ runG l0 l1 l pool1 pool2 sty1 sty2 f ms = runG l0 l1 l pool1 pool2 sty1 sty2 200 ms0 ∧ 200 ≤ ms.length + f ∧ ms.length ≤ 200 ∧ (A1 = none → l = [] ∧ c1 = 0) ∧ RunS w.heap.size wb.heap.size wb n l root l0 l1 ms A1 c1 M1 cm1 wr) (fun _ wr => lenW w.heap.size wr)
      case atStart => exact ⟨_, ms0, 200, A1, c1, M1, cm1, rfl, Hm.out, rfl, by omega, hl, hA1, hS5⟩
      case round =>
        clear hS5 hA1
        obtain ⟨tv, ms, f, A1, c1, M1, cm1, rfl, hok, hrun, hf, hln, hA1, hS⟩ := hrel
        have hBw := hS.near.size
        obtain ⟨e0, e1, e2, e3, e4, e5⟩ := dgC hS.blk
        have HOk := Lib.hid hok; have Hrun := Lib.hid hrun; have HA1 := Lib.hid hA1
        have e5' := e5
        clear hok hrun hA1
        go_wp2_with fail
        refine (turn_any n A1 l c1 root l0 l1 M1 ms cm1 wr hS.rp hS.rm HOk.out (by omega) hll).mono ?_
        rintro e w2 ⟨rfl, hb2⟩
        have hS2 := hS.below hBw hb2
        have hB2 := Nat.le_trans hBw hb2.size
        clear e0 e1 e2 e3 e4 e5 hS hb2
        obtain ⟨e0, e1, e2, e3, e4, e5⟩ := dgC hS2.blk
        rcases turn_012 l0 l1 l ms with ht | ht | ht
        · rw [ht]
          have Hr' := Lib.hid (show runG l0 l1 l pool1 pool2 sty1 sty2 f ms = ms by cases f <;> simp [runG, ht])
          have hkt := Kt2.out.grown hS2.near.grown (fun e => by injection e with e; omega)
          obtain ⟨q0, q1, q2, q3, q4, q5⟩ := dgC hkt
          obtain ⟨f0, f1, f2, f3, f4, f5⟩ := dgF hkt
          have Hkt := Lib.hid hkt; have HS2 := Lib.hid hS2
          clear hkt hS2 ht e5'
          go_wp2_with fail
          have hk2 := set6 (g := w.heap.size + 1 + 1 + 1) Hkt.out (.int .i64 (n : Int)) (.slice A1 l.length c1) (.int .i64 root) (.int .i64 l0) (.int .i64 l1) (.slice M1 ms.length cm1)
          obtain ⟨r0, r1, r2, r3, r4, r5⟩ := dgC hk2
          refine bodyPost_ret (v := .tuple #[.agg #[.int .i64 (n : Int), .slice A1 l.length c1, .int .i64 root, .int .i64 l0, .int .i64 l1, .slice M1 ms.length cm1], .int .i64 0]) (by simp [results, Try.results9, go_sem, r0, r1, r2, r3, r4, r5]) rfl ?_
          rw [← Hrun.out, Hr'.out]
          exact ⟨A1, c1, M1, cm1, rfl, ownsRow_mono (own_set6 HS2.out.op (by omega) ..) (by omega), OwnM.mono (own_set6 HS2.out.om (by omega) ..) (by omega), below_set6 (Hbw.out.trans (near_below HS2.out.near hG)) (by omega) ..⟩
        · rw [ht]
          have Htn := Lib.hid (show turnF l0 l1 l ms ≠ 0 by rw [ht]; decide)
          have hlt := (turn_run Htn.out).2.1
          obtain ⟨f', rfl⟩ : ∃ f', f = f' + 1 := ⟨f - 1, by omega⟩
          have Hstep := Lib.hid (show runG l0 l1 l pool1 pool2 sty1 sty2 (f' + 1) ms = runG l0 l1 l pool1 pool2 sty1 sty2 f' (ms ++ [(chooseF l ms pool1 sty1)]) by rw [runG, if_neg Htn.out, ht]; rw [if_pos rfl, if_pos rfl])
          have Hmay := Lib.hid (choose_may l ms pool1 sty1)
          have Hok' := Lib.hid (HOk.out.snoc (turn_run Htn.out).1 Hmay.out)
          obtain ⟨a0, a1, a2, a3, a4, a5, a6, a7⟩ := plC (K82.out.grown hS2.near.grown (fun e => by injection e with e; omega))
          have Hrp := Lib.hid hS2.rp; have Hrm := Lib.hid hS2.rm
          have Hnb := Lib.hid (show ∀ w1, Below w2.heap.size w2 w1 → Below w.heap.size w w1 from fun w1 hb => Hbw.out.trans ((near_below hS2.near hG).trans (hb.mono (by omega))))
          have HS2 := Lib.hid hS2
          clear hS2 ht
          go_upto_region 13 with fail
          go_cut [13, 14] (fun s13 s14 wx => ∃ q, s13 = Value.pointer (some ⟨q, 0, none⟩) ∧ s14 = Value.int .i64 0 ∧ w2.heap.size ≤ q ∧ Blk wx q 46 #[.int .i64 (chooseF l ms pool1 sty1).1, .int .i64 (chooseF l ms pool1 sty1).2.1, .int .i64 (chooseF l ms pool1 sty1).2.2.1, .int .i64 (chooseF l ms pool1 sty1).2.2.2] ∧ Below w2.heap.size w2 wx)
          case first =>
            refine wp_region_tree [5, 9, 10] (fun w' => Below w2.heap.size w2 w') (fun w' => BxM none w2.heap.size w') 12 [0, 1, 2, 3, 4, 5, 6, 7, 8, 9, 10, 11] (by rfl) (by decide) (by kernel_rfl) (by kernel_rfl) (Below.refl _ _).drew BxM.no ?_
            refine TxtT.pure 0 (by rfl) (by rw [List.getElem?_toArray]; rfl) (by rfl) (by as_aux_lemma => kernel_rfl) (by rfl) ?_; apply Exists.intro; refine ⟨fun w1 hS1 => ?_, ?_⟩; (focus ((have g0 := (hS1.cell (lt_of_cell e0)).trans e0); (have g1 := (hS1.cell (lt_of_cell e1)).trans e1); (have g2 := (hS1.cell (lt_of_cell e2)).trans e2); (have g3 := (hS1.cell (lt_of_cell e3)).trans e3); (have g4 := (hS1.cell (lt_of_cell e4)).trans e4); (have g5 := (hS1.cell (lt_of_cell e5)).trans e5); go_simp; with_reducible rfl))
            rw [show List.erase [0, 1, 2, 3, 4, 5, 6, 7, 8, 9, 10, 11] 0 = [1, 2, 3, 4, 5, 6, 7, 8, 9, 10, 11] from rfl]; simp only [Act.put, List.setIfInBounds_toArray, List.set_cons_zero, List.set_cons_succ]
            refine TxtT.pure 1 (by rfl) (by rw [List.getElem?_toArray]; rfl) (by rfl) (by as_aux_lemma => kernel_rfl) (by rfl) ?_; apply Exists.intro; refine ⟨fun w1 hS1 => ?_, ?_⟩; (focus (skip; go_simp; with_reducible rfl))
            rw [show List.erase [1, 2, 3, 4, 5, 6, 7, 8, 9, 10, 11] 1 = [2, 3, 4, 5, 6, 7, 8, 9, 10, 11] from rfl]; simp only [Act.put, List.setIfInBounds_toArray, List.set_cons_zero, List.set_cons_succ]
            refine TxtT.pure 2 (by rfl) (by rw [List.getElem?_toArray]; rfl) (by rfl) (by as_aux_lemma => kernel_rfl) (by rfl) ?_; apply Exists.intro; refine ⟨fun w1 hS1 => ?_, ?_⟩; (focus (skip; go_simp; with_reducible rfl))
            rw [show List.erase [2, 3, 4, 5, 6, 7, 8, 9, 10, 11] 2 = [3, 4, 5, 6, 7, 8, 9, 10, 11] from rfl]; simp only [Act.put, List.setIfInBounds_toArray, List.set_cons_zero, List.set_cons_succ]
            refine TxtT.pure 3 (by rfl) (by rw [List.getElem?_toArray]; rfl) (by rfl) (by as_aux_lemma => kernel_rfl) (by rfl) ?_; apply Exists.intro; refine ⟨fun w1 hS1 => ?_, ?_⟩; (focus ((have hw : IntKind.i64.wrap (0 : Int) = 0 := by rw [IntKind.wrap_i64]; omega); go_simp; with_reducible rfl))
            rw [show List.erase [3, 4, 5, 6, 7, 8, 9, 10, 11] 3 = [4, 5, 6, 7, 8, 9, 10, 11] from rfl]; simp only [Act.put, List.setIfInBounds_toArray, List.set_cons_zero, List.set_cons_succ]
            refine TxtT.pure 4 (by rfl) (by rw [List.getElem?_toArray]; rfl) (by rfl) (by as_aux_lemma => kernel_rfl) (by rfl) ?_; apply Exists.intro; refine ⟨fun w1 hS1 => ?_, ?_⟩; (focus ((have g0 := (hS1.cell (lt_of_cell a0)).trans a0); (have g1 := (hS1.cell (lt_of_cell a1)).trans a1); (have g2 := (hS1.cell (lt_of_cell a2)).trans a2); (have g3 := (hS1.cell (lt_of_cell a3)).trans a3); (have g4 := (hS1.cell (lt_of_cell a4)).trans a4); (have g5 := (hS1.cell (lt_of_cell a5)).trans a5); (have g6 := (hS1.cell (lt_of_cell a6)).trans a6); (have g7 := (hS1.cell (lt_of_cell a7)).trans a7); go_simp; with_reducible rfl))
            rw [show List.erase [4, 5, 6, 7, 8, 9, 10, 11] 4 = [5, 6, 7, 8, 9, 10, 11] from rfl]; simp only [Act.put, List.setIfInBounds_toArray, List.set_cons_zero, List.set_cons_succ]
            refine TxtT.two 5 9 (by as_aux_lemma => kernel_rfl) (by rw [List.getElem?_toArray]; rfl) (by rw [List.getElem?_toArray]; rfl) (by rfl) (by rfl) (by rfl) (by rfl) (fun v => v = Value.tuple #[.agg #[.int .i64 (chooseF l ms pool1 sty1).1, .int .i64 (chooseF l ms pool1 sty1).2.1, .int .i64 (chooseF l ms pool1 sty1).2.2.1, .int .i64 (chooseF l ms pool1 sty1).2.2.2], .int .i64 0]) (fun _ w' => BxM none w2.heap.size w') (fun v => ∃ q, v = Value.pointer (some ⟨q, 0, none⟩)) (fun v w' => ∃ q, v = Value.pointer (some ⟨q, 0, none⟩) ∧ BxM (some q) w2.heap.size w') (fun w1 hS1 hJ1 => ?_) (fun w1 hS1 hJ1 => ?_) ?_ ?_
            · refine Eff.call (f := 30) (args := #[.agg #[.int .i64 (n : Int), .slice A1 l.length c1, .int .i64 root, .int .i64 l0, .int .i64 l1, .slice M1 ms.length cm1], .agg #[.slice P1 pool1.length pc1, .slice none 0 0, .slice none 0 0, .int .i64 sty1]]) (by go_simp) ((choose_any n A1 l c1 root l0 l1 M1 ms cm1 P1 pool1 pc1 sty1 w1 (Hrp.out.below hS1) (Hrm.out.below hS1) HOk.out (by omega) hll Htn.out (Hp1.out.below (Hnb.out w1 hS1)) hpl1 Ha1.out h1a h1b).mono ?_)
              rintro e w' ⟨rfl, hb⟩
              exact ⟨_, rfl, hS1.trans (hb.mono hS1.size), rfl, BxM.below hJ1 hb⟩
            · exact Eff.value (w' := w1.alloc (.cells #[.int .i64 0, .int .i64 0, .int .i64 0, .int .i64 0] 46)) (v := .pointer (some ⟨w1.heap.size, 0, none⟩)) (by go_simp) ⟨hS1.trans ((newB _ _).mono hS1.size), ⟨_, rfl⟩, _, rfl, BxM.new hS1.size⟩
            ·
              rintro _ rfl
              rw [show List.erase [5, 6, 7, 8, 9, 10, 11] 5 = [6, 7, 8, 9, 10, 11] from rfl]; simp only [Act.put, List.setIfInBounds_toArray, List.set_cons_zero, List.set_cons_succ]
              refine TxtT.pure 6 (by rfl) (by rw [List.getElem?_toArray]; rfl) (by rfl) (by as_aux_lemma => kernel_rfl) (by rfl) ?_; apply Exists.intro; refine ⟨fun w1 hS1 => ?_, ?_⟩; (focus (skip; go_simp; with_reducible rfl))
              rw [show List.erase [6, 7, 8, 9, 10, 11] 6 = [7, 8, 9, 10, 11] from rfl]; simp only [Act.put, List.setIfInBounds_toArray, List.set_cons_zero, List.set_cons_succ]
              refine TxtT.pure 7 (by rfl) (by rw [List.getElem?_toArray]; rfl) (by rfl) (by as_aux_lemma => kernel_rfl) (by rfl) ?_; apply Exists.intro; refine ⟨fun w1 hS1 => ?_, ?_⟩; (focus (skip; go_simp; with_reducible rfl))
              rw [show List.erase [7, 8, 9, 10, 11] 7 = [8, 9, 10, 11] from rfl]; simp only [Act.put, List.setIfInBounds_toArray, List.set_cons_zero, List.set_cons_succ]
              refine TxtT.pure 8 (by rfl) (by rw [List.getElem?_toArray]; rfl) (by rfl) (by as_aux_lemma => kernel_rfl) (by rfl) ?_; apply Exists.intro; refine ⟨fun w1 hS1 => ?_, ?_⟩; (focus (skip; go_simp; with_reducible rfl))
              rw [show List.erase [8, 9, 10, 11] 8 = [9, 10, 11] from rfl]; simp only [Act.put, List.setIfInBounds_toArray, List.set_cons_zero, List.set_cons_succ]
              refine TxtT.one 9 (by as_aux_lemma => kernel_rfl) (by rw [List.getElem?_toArray]; rfl) (by rfl) (by rfl) (fun v => ∃ q, v = Value.pointer (some ⟨q, 0, none⟩)) (fun v w' => ∃ q, v = Value.pointer (some ⟨q, 0, none⟩) ∧ BxM (some q) w2.heap.size w') (fun w1 hS1 hJ1 => ?_) ?_
              · exact Eff.value (w' := w1.alloc (.cells #[.int .i64 0, .int .i64 0, .int .i64 0, .int .i64 0] 46)) (v := .pointer (some ⟨w1.heap.size, 0, none⟩)) (by go_simp) ⟨hS1.trans ((newB _ _).mono hS1.size), ⟨_, rfl⟩, _, rfl, BxM.new hS1.size⟩
              rintro _ ⟨q, rfl⟩
              rw [show List.erase [9, 10, 11] 9 = [10, 11] from rfl]; simp only [Act.put, List.setIfInBounds_toArray, List.set_cons_zero, List.set_cons_succ]
              refine TxtT.weakJ (J2 := (fun w' => BxM (some q) w2.heap.size w')) (fun w1 h => by obtain ⟨q', hq, h⟩ := h; injection hq with hq; injection hq with hq; injection hq with hq _ _; subst hq; exact h) ?_
              refine TxtT.one 10 (by as_aux_lemma => kernel_rfl) (by rw [List.getElem?_toArray]; rfl) (by rfl) (by rfl) (fun v => v = undef) (fun _ w' => w2.heap.size ≤ q ∧ Blk w' q 46 #[.int .i64 (chooseF l ms pool1 sty1).1, .int .i64 (chooseF l ms pool1 sty1).2.1, .int .i64 (chooseF l ms pool1 sty1).2.2.1, .int .i64 (chooseF l ms pool1 sty1).2.2.2]) (fun w1 hS1 hJ1 => ?_) ?_
              · obtain ⟨hq, hk⟩ := hJ1 q rfl
                obtain ⟨g0, g1, g2, g3, f0, f1, f2, f3⟩ := mvC hk
                exact Eff.skip (w' := (((w1.setCell ⟨q, 0, none⟩ (.int .i64 (chooseF l ms pool1 sty1).1)).setCell ⟨q, 1, none⟩ (.int .i64 (chooseF l ms pool1 sty1).2.1)).setCell ⟨q, 2, none⟩ (.int .i64 (chooseF l ms pool1 sty1).2.2.1)).setCell ⟨q, 3, none⟩ (.int .i64 (chooseF l ms pool1 sty1).2.2.2)) (by go_simp) ⟨below_set4 hS1 hq _ _ _ _, rfl, hq, set4 hk _ _ _ _⟩
              rintro _ rfl
              rw [show List.erase [10, 11] 10 = [11] from rfl]; simp only [Act.put]
              refine TxtT.pure 11 (by rfl) (by rw [List.getElem?_toArray]; rfl) (by rfl) (by as_aux_lemma => kernel_rfl) (by rfl) ?_; apply Exists.intro; refine ⟨fun w1 hS1 => ?_, ?_⟩; (focus (skip; go_simp; with_reducible rfl))
              rw [show List.erase [11] 11 = [] from rfl]; simp only [Act.put, List.setIfInBounds_toArray, List.set_cons_zero, List.set_cons_succ]
              refine ⟨rfl, fun w1 hS1 hJ1 => ?_⟩
              go_wp2_with fail
              go_meet
              exact ⟨q, rfl, rfl, hJ1.1, hJ1.2, hS1⟩
            ·
              rintro _ ⟨q, rfl⟩
              rw [show List.erase [5, 6, 7, 8, 9, 10, 11] 9 = [5, 6, 7, 8, 10, 11] from rfl]; simp only [Act.put, List.setIfInBounds_toArray, List.set_cons_zero, List.set_cons_succ]
              refine TxtT.weakJ (J2 := (fun w' => BxM (some q) w2.heap.size w')) (fun w1 h => by obtain ⟨q', hq, h⟩ := h; injection hq with hq; injection hq with hq; injection hq with hq _ _; subst hq; exact h) ?_
              refine TxtT.one 5 (by as_aux_lemma => kernel_rfl) (by rw [List.getElem?_toArray]; rfl) (by rfl) (by rfl) (fun v => v = Value.tuple #[.agg #[.int .i64 (chooseF l ms pool1 sty1).1, .int .i64 (chooseF l ms pool1 sty1).2.1, .int .i64 (chooseF l ms pool1 sty1).2.2.1, .int .i64 (chooseF l ms pool1 sty1).2.2.2], .int .i64 0]) (fun _ w' => BxM (some q) w2.heap.size w') (fun w1 hS1 hJ1 => ?_) ?_
              · refine Eff.call (f := 30) (args := #[.agg #[.int .i64 (n : Int), .slice A1 l.length c1, .int .i64 root, .int .i64 l0, .int .i64 l1, .slice M1 ms.length cm1], .agg #[.slice P1 pool1.length pc1, .slice none 0 0, .slice none 0 0, .int .i64 sty1]]) (by go_simp) ((choose_any n A1 l c1 root l0 l1 M1 ms cm1 P1 pool1 pc1 sty1 w1 (Hrp.out.below hS1) (Hrm.out.below hS1) HOk.out (by omega) hll Htn.out (Hp1.out.below (Hnb.out w1 hS1)) hpl1 Ha1.out h1a h1b).mono ?_)
                rintro e w' ⟨rfl, hb⟩
                exact ⟨_, rfl, hS1.trans (hb.mono hS1.size), rfl, BxM.below hJ1 hb⟩
              rintro _ rfl
              rw [show List.erase [5, 6, 7, 8, 10, 11] 5 = [6, 7, 8, 10, 11] from rfl]; simp only [Act.put, List.setIfInBounds_toArray, List.set_cons_zero, List.set_cons_succ]
              refine TxtT.pure 6 (by rfl) (by rw [List.getElem?_toArray]; rfl) (by rfl) (by as_aux_lemma => kernel_rfl) (by rfl) ?_; apply Exists.intro; refine ⟨fun w1 hS1 => ?_, ?_⟩; (focus (skip; go_simp; with_reducible rfl))
              rw [show List.erase [6, 7, 8, 10, 11] 6 = [7, 8, 10, 11] from rfl]; simp only [Act.put, List.setIfInBounds_toArray, List.set_cons_zero, List.set_cons_succ]
              refine TxtT.pure 7 (by rfl) (by rw [List.getElem?_toArray]; rfl) (by rfl) (by as_aux_lemma => kernel_rfl) (by rfl) ?_; apply Exists.intro; refine ⟨fun w1 hS1 => ?_, ?_⟩; (focus (skip; go_simp; with_reducible rfl))
              rw [show List.erase [7, 8, 10, 11] 7 = [8, 10, 11] from rfl]; simp only [Act.put, List.setIfInBounds_toArray, List.set_cons_zero, List.set_cons_succ]
              refine TxtT.pure 8 (by rfl) (by rw [List.getElem?_toArray]; rfl) (by rfl) (by as_aux_lemma => kernel_rfl) (by rfl) ?_; apply Exists.intro; refine ⟨fun w1 hS1 => ?_, ?_⟩; (focus (skip; go_simp; with_reducible rfl))
              rw [show List.erase [8, 10, 11] 8 = [10, 11] from rfl]; simp only [Act.put, List.setIfInBounds_toArray, List.set_cons_zero, List.set_cons_succ]
              refine TxtT.one 10 (by as_aux_lemma => kernel_rfl) (by rw [List.getElem?_toArray]; rfl) (by rfl) (by rfl) (fun v => v = undef) (fun _ w' => w2.heap.size ≤ q ∧ Blk w' q 46 #[.int .i64 (chooseF l ms pool1 sty1).1, .int .i64 (chooseF l ms pool1 sty1).2.1, .int .i64 (chooseF l ms pool1 sty1).2.2.1, .int .i64 (chooseF l ms pool1 sty1).2.2.2]) (fun w1 hS1 hJ1 => ?_) ?_
              · obtain ⟨hq, hk⟩ := hJ1 q rfl
                obtain ⟨g0, g1, g2, g3, f0, f1, f2, f3⟩ := mvC hk
                exact Eff.skip (w' := (((w1.setCell ⟨q, 0, none⟩ (.int .i64 (chooseF l ms pool1 sty1).1)).setCell ⟨q, 1, none⟩ (.int .i64 (chooseF l ms pool1 sty1).2.1)).setCell ⟨q, 2, none⟩ (.int .i64 (chooseF l ms pool1 sty1).2.2.1)).setCell ⟨q, 3, none⟩ (.int .i64 (chooseF l ms pool1 sty1).2.2.2)) (by go_simp) ⟨below_set4 hS1 hq _ _ _ _, rfl, hq, set4 hk _ _ _ _⟩
              rintro _ rfl
              rw [show List.erase [10, 11] 10 = [11] from rfl]; simp only [Act.put]
              refine TxtT.pure 11 (by rfl) (by rw [List.getElem?_toArray]; rfl) (by rfl) (by as_aux_lemma => kernel_rfl) (by rfl) ?_; apply Exists.intro; refine ⟨fun w1 hS1 => ?_, ?_⟩; (focus (skip; go_simp; with_reducible rfl))
              rw [show List.erase [11] 11 = [] from rfl]; simp only [Act.put, List.setIfInBounds_toArray, List.set_cons_zero, List.set_cons_succ]
              refine ⟨rfl, fun w1 hS1 hJ1 => ?_⟩
              go_wp2_with fail
              go_meet
              exact ⟨q, rfl, rfl, hJ1.1, hJ1.2, hS1⟩
          obtain ⟨q, rfl, rfl, hq, hkq, hb3⟩ := hcut
          clear a0 a1 a2 a3 a4 a5 a6 a7 e0 e1 e2 e3 e4 e5
          have hS3 := HS2.out.below hB2 hb3
          have hB3 := Nat.le_trans hB2 hb3.size
          obtain ⟨e0, e1, e2, e3, e4, e5⟩ := dgC hS3.blk
          obtain ⟨u0, u1, u2, u3, _, _, _, _⟩ := mvC hkq
          clear HS2 hb3 hkq Hrp Hrm
          go_wp2_with fail
          refine (apply_any n A1 l c1 root l0 l1 M1 ms cm1 (chooseF l ms pool1 sty1) wc hS3.rp HA1.out Hv.out hS3.rm HOk.out (by omega) hll Htn.out Hmay.out).mono ?_
          rintro e w4 ⟨A4, c4, M4, cm4, rfl, ho4, hm4, hb4⟩
          have hS4 := hS3.below hB3 hb4
          clear e0 e1 e2 e3 e4 e5 u0 u1 u2 u3
          obtain ⟨e0, e1, e2, e3, e4, e5⟩ := dgC hS4.blk
          obtain ⟨f0, f1, f2, f3, f4, f5⟩ := dgF hS4.blk
          have hl1 : (ms ++ [(chooseF l ms pool1 sty1)]).length = ms.length + 1 := by simp
          have hA4 : A4 = none → l = [] ∧ c4 = 0 := fun en => by
            obtain ⟨A', c', e', _, hn⟩ := OwnP.form2 ho4
            injection e' with e1 _ e2
            subst e1 e2
            exact hn en
          have hb6 := set6 hS4.blk (.int .i64 (n : Int)) (.slice A4 l.length c4) (.int .i64 root) (.int .i64 l0) (.int .i64 l1) (.slice M4 (ms.length + 1) cm4)
          have Hlw := Lib.hid (lenW_eq (dgC hb6).2.2.2.2.2)
          have Hlo := Lib.hid (lenW_eq e5')
          have HNew := Lib.hid (show RunS w.heap.size wb.heap.size wb n l root l0 l1 (ms ++ [(chooseF l ms pool1 sty1)]) A4 c4 M4 cm4 ((((((w4.setCell ⟨w.heap.size, 0, none⟩ (.int .i64 (n : Int))).setCell ⟨w.heap.size, 1, none⟩ (.slice A4 l.length c4)).setCell ⟨w.heap.size, 2, none⟩ (.int .i64 root)).setCell ⟨w.heap.size, 3, none⟩ (.int .i64 l0)).setCell ⟨w.heap.size, 4, none⟩ (.int .i64 l1)).setCell ⟨w.heap.size, 5, none⟩ (.slice M4 (ms.length + 1) cm4)) from
            ⟨by rw [hl1]; exact hb6, own_set6 (ownsRow_mono ho4 hB3) (by omega) .., own_set6 (OwnM.mono hm4 hB3) (by omega) .., near_set6 hS4.near ..⟩)
          have HA4 := Lib.hid hA4
          clear hS3 hS4 ho4 hm4 hb4 hb6 hA4 hl1 e5'
          go_wp2_with fail
          go_roundw
          case rel => exact ⟨_, _, f', A4, c4, M4, cm4, rfl, Hok'.out, by rw [← Hstep.out]; exact Hrun.out, by simp; omega, by simp; omega, HA4.out, HNew.out⟩
          case measure =>
            rw [Hlw.out, Hlo.out]; omega
        · rw [ht]
          have Htn := Lib.hid (show turnF l0 l1 l ms ≠ 0 by rw [ht]; decide)
          have hlt := (turn_run Htn.out).2.1
          obtain ⟨f', rfl⟩ : ∃ f', f = f' + 1 := ⟨f - 1, by omega⟩
          have Hstep := Lib.hid (show runG l0 l1 l pool1 pool2 sty1 sty2 (f' + 1) ms = runG l0 l1 l pool1 pool2 sty1 sty2 f' (ms ++ [(chooseF l ms pool2 sty2)]) by rw [runG, if_neg Htn.out, ht]; rw [if_neg (by decide), if_neg (by decide)])
          have Hmay := Lib.hid (choose_may l ms pool2 sty2)
          have Hok' := Lib.hid (HOk.out.snoc (turn_run Htn.out).1 Hmay.out)
          obtain ⟨a0, a1, a2, a3, a4, a5, a6, a7⟩ := plC (K82.out.grown hS2.near.grown (fun e => by injection e with e; omega))
          have Hrp := Lib.hid hS2.rp; have Hrm := Lib.hid hS2.rm
          have Hnb := Lib.hid (show ∀ w1, Below w2.heap.size w2 w1 → Below w.heap.size w w1 from fun w1 hb => Hbw.out.trans ((near_below hS2.near hG).trans (hb.mono (by omega))))
          have HS2 := Lib.hid hS2
          clear hS2 ht
          go_upto_region 13 with fail
          go_cut [13, 14] (fun s13 s14 wx => ∃ q, s13 = Value.pointer (some ⟨q, 0, none⟩) ∧ s14 = Value.int .i64 0 ∧ w2.heap.size ≤ q ∧ Blk wx q 46 #[.int .i64 (chooseF l ms pool2 sty2).1, .int .i64 (chooseF l ms pool2 sty2).2.1, .int .i64 (chooseF l ms pool2 sty2).2.2.1, .int .i64 (chooseF l ms pool2 sty2).2.2.2] ∧ Below w2.heap.size w2 wx)
          case first =>
            refine wp_region_tree [5, 9, 10] (fun w' => Below w2.heap.size w2 w') (fun w' => BxM none w2.heap.size w') 12 [0, 1, 2, 3, 4, 5, 6, 7, 8, 9, 10, 11] (by rfl) (by decide) (by kernel_rfl) (by kernel_rfl) (Below.refl _ _).drew BxM.no ?_
            refine TxtT.pure 0 (by rfl) (by rw [List.getElem?_toArray]; rfl) (by rfl) (by as_aux_lemma => kernel_rfl) (by rfl) ?_; apply Exists.intro; refine ⟨fun w1 hS1 => ?_, ?_⟩; (focus ((have g0 := (hS1.cell (lt_of_cell e0)).trans e0); (have g1 := (hS1.cell (lt_of_cell e1)).trans e1); (have g2 := (hS1.cell (lt_of_cell e2)).trans e2); (have g3 := (hS1.cell (lt_of_cell e3)).trans e3); (have g4 := (hS1.cell (lt_of_cell e4)).trans e4); (have g5 := (hS1.cell (lt_of_cell e5)).trans e5); go_simp; with_reducible rfl))
            rw [show List.erase [0, 1, 2, 3, 4, 5, 6, 7, 8, 9, 10, 11] 0 = [1, 2, 3, 4, 5, 6, 7, 8, 9, 10, 11] from rfl]; simp only [Act.put, List.setIfInBounds_toArray, List.set_cons_zero, List.set_cons_succ]
            refine TxtT.pure 1 (by rfl) (by rw [List.getElem?_toArray]; rfl) (by rfl) (by as_aux_lemma => kernel_rfl) (by rfl) ?_; apply Exists.intro; refine ⟨fun w1 hS1 => ?_, ?_⟩; (focus (skip; go_simp; with_reducible rfl))
            rw [show List.erase [1, 2, 3, 4, 5, 6, 7, 8, 9, 10, 11] 1 = [2, 3, 4, 5, 6, 7, 8, 9, 10, 11] from rfl]; simp only [Act.put, List.setIfInBounds_toArray, List.set_cons_zero, List.set_cons_succ]
            refine TxtT.pure 2 (by rfl) (by rw [List.getElem?_toArray]; rfl) (by rfl) (by as_aux_lemma => kernel_rfl) (by rfl) ?_; apply Exists.intro; refine ⟨fun w1 hS1 => ?_, ?_⟩; (focus (skip; go_simp; with_reducible rfl))
            rw [show List.erase [2, 3, 4, 5, 6, 7, 8, 9, 10, 11] 2 = [3, 4, 5, 6, 7, 8, 9, 10, 11] from rfl]; simp only [Act.put, List.setIfInBounds_toArray, List.set_cons_zero, List.set_cons_succ]
            refine TxtT.pure 3 (by rfl) (by rw [List.getElem?_toArray]; rfl) (by rfl) (by as_aux_lemma => kernel_rfl) (by rfl) ?_; apply Exists.intro; refine ⟨fun w1 hS1 => ?_, ?_⟩; (focus ((have hw : IntKind.i64.wrap (1 : Int) = 1 := by rw [IntKind.wrap_i64]; omega); go_simp; with_reducible rfl))
            rw [show List.erase [3, 4, 5, 6, 7, 8, 9, 10, 11] 3 = [4, 5, 6, 7, 8, 9, 10, 11] from rfl]; simp only [Act.put, List.setIfInBounds_toArray, List.set_cons_zero, List.set_cons_succ]
            refine TxtT.pure 4 (by rfl) (by rw [List.getElem?_toArray]; rfl) (by rfl) (by as_aux_lemma => kernel_rfl) (by rfl) ?_; apply Exists.intro; refine ⟨fun w1 hS1 => ?_, ?_⟩; (focus ((have g0 := (hS1.cell (lt_of_cell a0)).trans a0); (have g1 := (hS1.cell (lt_of_cell a1)).trans a1); (have g2 := (hS1.cell (lt_of_cell a2)).trans a2); (have g3 := (hS1.cell (lt_of_cell a3)).trans a3); (have g4 := (hS1.cell (lt_of_cell a4)).trans a4); (have g5 := (hS1.cell (lt_of_cell a5)).trans a5); (have g6 := (hS1.cell (lt_of_cell a6)).trans a6); (have g7 := (hS1.cell (lt_of_cell a7)).trans a7); go_simp; with_reducible rfl))
            rw [show List.erase [4, 5, 6, 7, 8, 9, 10, 11] 4 = [5, 6, 7, 8, 9, 10, 11] from rfl]; simp only [Act.put, List.setIfInBounds_toArray, List.set_cons_zero, List.set_cons_succ]
            refine TxtT.two 5 9 (by as_aux_lemma => kernel_rfl) (by rw [List.getElem?_toArray]; rfl) (by rw [List.getElem?_toArray]; rfl) (by rfl) (by rfl) (by rfl) (by rfl) (fun v => v = Value.tuple #[.agg #[.int .i64 (chooseF l ms pool2 sty2).1, .int .i64 (chooseF l ms pool2 sty2).2.1, .int .i64 (chooseF l ms pool2 sty2).2.2.1, .int .i64 (chooseF l ms pool2 sty2).2.2.2], .int .i64 0]) (fun _ w' => BxM none w2.heap.size w') (fun v => ∃ q, v = Value.pointer (some ⟨q, 0, none⟩)) (fun v w' => ∃ q, v = Value.pointer (some ⟨q, 0, none⟩) ∧ BxM (some q) w2.heap.size w') (fun w1 hS1 hJ1 => ?_) (fun w1 hS1 hJ1 => ?_) ?_ ?_
            · refine Eff.call (f := 30) (args := #[.agg #[.int .i64 (n : Int), .slice A1 l.length c1, .int .i64 root, .int .i64 l0, .int .i64 l1, .slice M1 ms.length cm1], .agg #[.slice P2 pool2.length pc2, .slice none 0 0, .slice none 0 0, .int .i64 sty2]]) (by go_simp) ((choose_any n A1 l c1 root l0 l1 M1 ms cm1 P2 pool2 pc2 sty2 w1 (Hrp.out.below hS1) (Hrm.out.below hS1) HOk.out (by omega) hll Htn.out (Hp2.out.below (Hnb.out w1 hS1)) hpl2 Ha2.out h2a h2b).mono ?_)
              rintro e w' ⟨rfl, hb⟩
              exact ⟨_, rfl, hS1.trans (hb.mono hS1.size), rfl, BxM.below hJ1 hb⟩
            · exact Eff.value (w' := w1.alloc (.cells #[.int .i64 0, .int .i64 0, .int .i64 0, .int .i64 0] 46)) (v := .pointer (some ⟨w1.heap.size, 0, none⟩)) (by go_simp) ⟨hS1.trans ((newB _ _).mono hS1.size), ⟨_, rfl⟩, _, rfl, BxM.new hS1.size⟩
            ·
              rintro _ rfl
              rw [show List.erase [5, 6, 7, 8, 9, 10, 11] 5 = [6, 7, 8, 9, 10, 11] from rfl]; simp only [Act.put, List.setIfInBounds_toArray, List.set_cons_zero, List.set_cons_succ]
              refine TxtT.pure 6 (by rfl) (by rw [List.getElem?_toArray]; rfl) (by rfl) (by as_aux_lemma => kernel_rfl) (by rfl) ?_; apply Exists.intro; refine ⟨fun w1 hS1 => ?_, ?_⟩; (focus (skip; go_simp; with_reducible rfl))
              rw [show List.erase [6, 7, 8, 9, 10, 11] 6 = [7, 8, 9, 10, 11] from rfl]; simp only [Act.put, List.setIfInBounds_toArray, List.set_cons_zero, List.set_cons_succ]
              refine TxtT.pure 7 (by rfl) (by rw [List.getElem?_toArray]; rfl) (by rfl) (by as_aux_lemma => kernel_rfl) (by rfl) ?_; apply Exists.intro; refine ⟨fun w1 hS1 => ?_, ?_⟩; (focus (skip; go_simp; with_reducible rfl))
              rw [show List.erase [7, 8, 9, 10, 11] 7 = [8, 9, 10, 11] from rfl]; simp only [Act.put, List.setIfInBounds_toArray, List.set_cons_zero, List.set_cons_succ]
              refine TxtT.pure 8 (by rfl) (by rw [List.getElem?_toArray]; rfl) (by rfl) (by as_aux_lemma => kernel_rfl) (by rfl) ?_; apply Exists.intro; refine ⟨fun w1 hS1 => ?_, ?_⟩; (focus (skip; go_simp; with_reducible rfl))
              rw [show List.erase [8, 9, 10, 11] 8 = [9, 10, 11] from rfl]; simp only [Act.put, List.setIfInBounds_toArray, List.set_cons_zero, List.set_cons_succ]
              refine TxtT.one 9 (by as_aux_lemma => kernel_rfl) (by rw [List.getElem?_toArray]; rfl) (by rfl) (by rfl) (fun v => ∃ q, v = Value.pointer (some ⟨q, 0, none⟩)) (fun v w' => ∃ q, v = Value.pointer (some ⟨q, 0, none⟩) ∧ BxM (some q) w2.heap.size w') (fun w1 hS1 hJ1 => ?_) ?_
              · exact Eff.value (w' := w1.alloc (.cells #[.int .i64 0, .int .i64 0, .int .i64 0, .int .i64 0] 46)) (v := .pointer (some ⟨w1.heap.size, 0, none⟩)) (by go_simp) ⟨hS1.trans ((newB _ _).mono hS1.size), ⟨_, rfl⟩, _, rfl, BxM.new hS1.size⟩
              rintro _ ⟨q, rfl⟩
              rw [show List.erase [9, 10, 11] 9 = [10, 11] from rfl]; simp only [Act.put, List.setIfInBounds_toArray, List.set_cons_zero, List.set_cons_succ]
              refine TxtT.weakJ (J2 := (fun w' => BxM (some q) w2.heap.size w')) (fun w1 h => by obtain ⟨q', hq, h⟩ := h; injection hq with hq; injection hq with hq; injection hq with hq _ _; subst hq; exact h) ?_
              refine TxtT.one 10 (by as_aux_lemma => kernel_rfl) (by rw [List.getElem?_toArray]; rfl) (by rfl) (by rfl) (fun v => v = undef) (fun _ w' => w2.heap.size ≤ q ∧ Blk w' q 46 #[.int .i64 (chooseF l ms pool2 sty2).1, .int .i64 (chooseF l ms pool2 sty2).2.1, .int .i64 (chooseF l ms pool2 sty2).2.2.1, .int .i64 (chooseF l ms pool2 sty2).2.2.2]) (fun w1 hS1 hJ1 => ?_) ?_
              · obtain ⟨hq, hk⟩ := hJ1 q rfl
                obtain ⟨g0, g1, g2, g3, f0, f1, f2, f3⟩ := mvC hk
                exact Eff.skip (w' := (((w1.setCell ⟨q, 0, none⟩ (.int .i64 (chooseF l ms pool2 sty2).1)).setCell ⟨q, 1, none⟩ (.int .i64 (chooseF l ms pool2 sty2).2.1)).setCell ⟨q, 2, none⟩ (.int .i64 (chooseF l ms pool2 sty2).2.2.1)).setCell ⟨q, 3, none⟩ (.int .i64 (chooseF l ms pool2 sty2).2.2.2)) (by go_simp) ⟨below_set4 hS1 hq _ _ _ _, rfl, hq, set4 hk _ _ _ _⟩
              rintro _ rfl
              rw [show List.erase [10, 11] 10 = [11] from rfl]; simp only [Act.put]
              refine TxtT.pure 11 (by rfl) (by rw [List.getElem?_toArray]; rfl) (by rfl) (by as_aux_lemma => kernel_rfl) (by rfl) ?_; apply Exists.intro; refine ⟨fun w1 hS1 => ?_, ?_⟩; (focus (skip; go_simp; with_reducible rfl))
              rw [show List.erase [11] 11 = [] from rfl]; simp only [Act.put, List.setIfInBounds_toArray, List.set_cons_zero, List.set_cons_succ]
              refine ⟨rfl, fun w1 hS1 hJ1 => ?_⟩
              go_wp2_with fail
              go_meet
              exact ⟨q, rfl, rfl, hJ1.1, hJ1.2, hS1⟩
            ·
              rintro _ ⟨q, rfl⟩
              rw [show List.erase [5, 6, 7, 8, 9, 10, 11] 9 = [5, 6, 7, 8, 10, 11] from rfl]; simp only [Act.put, List.setIfInBounds_toArray, List.set_cons_zero, List.set_cons_succ]
              refine TxtT.weakJ (J2 := (fun w' => BxM (some q) w2.heap.size w')) (fun w1 h => by obtain ⟨q', hq, h⟩ := h; injection hq with hq; injection hq with hq; injection hq with hq _ _; subst hq; exact h) ?_
              refine TxtT.one 5 (by as_aux_lemma => kernel_rfl) (by rw [List.getElem?_toArray]; rfl) (by rfl) (by rfl) (fun v => v = Value.tuple #[.agg #[.int .i64 (chooseF l ms pool2 sty2).1, .int .i64 (chooseF l ms pool2 sty2).2.1, .int .i64 (chooseF l ms pool2 sty2).2.2.1, .int .i64 (chooseF l ms pool2 sty2).2.2.2], .int .i64 0]) (fun _ w' => BxM (some q) w2.heap.size w') (fun w1 hS1 hJ1 => ?_) ?_
              · refine Eff.call (f := 30) (args := #[.agg #[.int .i64 (n : Int), .slice A1 l.length c1, .int .i64 root, .int .i64 l0, .int .i64 l1, .slice M1 ms.length cm1], .agg #[.slice P2 pool2.length pc2, .slice none 0 0, .slice none 0 0, .int .i64 sty2]]) (by go_simp) ((choose_any n A1 l c1 root l0 l1 M1 ms cm1 P2 pool2 pc2 sty2 w1 (Hrp.out.below hS1) (Hrm.out.below hS1) HOk.out (by omega) hll Htn.out (Hp2.out.below (Hnb.out w1 hS1)) hpl2 Ha2.out h2a h2b).mono ?_)
                rintro e w' ⟨rfl, hb⟩
                exact ⟨_, rfl, hS1.trans (hb.mono hS1.size), rfl, BxM.below hJ1 hb⟩
              rintro _ rfl
              rw [show List.erase [5, 6, 7, 8, 10, 11] 5 = [6, 7, 8, 10, 11] from rfl]; simp only [Act.put, List.setIfInBounds_toArray, List.set_cons_zero, List.set_cons_succ]
              refine TxtT.pure 6 (by rfl) (by rw [List.getElem?_toArray]; rfl) (by rfl) (by as_aux_lemma => kernel_rfl) (by rfl) ?_; apply Exists.intro; refine ⟨fun w1 hS1 => ?_, ?_⟩; (focus (skip; go_simp; with_reducible rfl))
              rw [show List.erase [6, 7, 8, 10, 11] 6 = [7, 8, 10, 11] from rfl]; simp only [Act.put, List.setIfInBounds_toArray, List.set_cons_zero, List.set_cons_succ]
              refine TxtT.pure 7 (by rfl) (by rw [List.getElem?_toArray]; rfl) (by rfl) (by as_aux_lemma => kernel_rfl) (by rfl) ?_; apply Exists.intro; refine ⟨fun w1 hS1 => ?_, ?_⟩; (focus (skip; go_simp; with_reducible rfl))
              rw [show List.erase [7, 8, 10, 11] 7 = [8, 10, 11] from rfl]; simp only [Act.put, List.setIfInBounds_toArray, List.set_cons_zero, List.set_cons_succ]
              refine TxtT.pure 8 (by rfl) (by rw [List.getElem?_toArray]; rfl) (by rfl) (by as_aux_lemma => kernel_rfl) (by rfl) ?_; apply Exists.intro; refine ⟨fun w1 hS1 => ?_, ?_⟩; (focus (skip; go_simp; with_reducible rfl))
              rw [show List.erase [8, 10, 11] 8 = [10, 11] from rfl]; simp only [Act.put, List.setIfInBounds_toArray, List.set_cons_zero, List.set_cons_succ]
              refine TxtT.one 10 (by as_aux_lemma => kernel_rfl) (by rw [List.getElem?_toArray]; rfl) (by rfl) (by rfl) (fun v => v = undef) (fun _ w' => w2.heap.size ≤ q ∧ Blk w' q 46 #[.int .i64 (chooseF l ms pool2 sty2).1, .int .i64 (chooseF l ms pool2 sty2).2.1, .int .i64 (chooseF l ms pool2 sty2).2.2.1, .int .i64 (chooseF l ms pool2 sty2).2.2.2]) (fun w1 hS1 hJ1 => ?_) ?_
              · obtain ⟨hq, hk⟩ := hJ1 q rfl
                obtain ⟨g0, g1, g2, g3, f0, f1, f2, f3⟩ := mvC hk
                exact Eff.skip (w' := (((w1.setCell ⟨q, 0, none⟩ (.int .i64 (chooseF l ms pool2 sty2).1)).setCell ⟨q, 1, none⟩ (.int .i64 (chooseF l ms pool2 sty2).2.1)).setCell ⟨q, 2, none⟩ (.int .i64 (chooseF l ms pool2 sty2).2.2.1)).setCell ⟨q, 3, none⟩ (.int .i64 (chooseF l ms pool2 sty2).2.2.2)) (by go_simp) ⟨below_set4 hS1 hq _ _ _ _, rfl, hq, set4 hk _ _ _ _⟩
              rintro _ rfl
              rw [show List.erase [10, 11] 10 = [11] from rfl]; simp only [Act.put]
              refine TxtT.pure 11 (by rfl) (by rw [List.getElem?_toArray]; rfl) (by rfl) (by as_aux_lemma => kernel_rfl) (by rfl) ?_; apply Exists.intro; refine ⟨fun w1 hS1 => ?_, ?_⟩; (focus (skip; go_simp; with_reducible rfl))
              rw [show List.erase [11] 11 = [] from rfl]; simp only [Act.put, List.setIfInBounds_toArray, List.set_cons_zero, List.set_cons_succ]
              refine ⟨rfl, fun w1 hS1 hJ1 => ?_⟩
              go_wp2_with fail
              go_meet
              exact ⟨q, rfl, rfl, hJ1.1, hJ1.2, hS1⟩
          obtain ⟨q, rfl, rfl, hq, hkq, hb3⟩ := hcut
          clear a0 a1 a2 a3 a4 a5 a6 a7 e0 e1 e2 e3 e4 e5
          have hS3 := HS2.out.below hB2 hb3
          have hB3 := Nat.le_trans hB2 hb3.size
          obtain ⟨e0, e1, e2, e3, e4, e5⟩ := dgC hS3.blk
          obtain ⟨u0, u1, u2, u3, _, _, _, _⟩ := mvC hkq
          clear HS2 hb3 hkq Hrp Hrm
          go_wp2_with fail
          refine (apply_any n A1 l c1 root l0 l1 M1 ms cm1 (chooseF l ms pool2 sty2) wc hS3.rp HA1.out Hv.out hS3.rm HOk.out (by omega) hll Htn.out Hmay.out).mono ?_
          rintro e w4 ⟨A4, c4, M4, cm4, rfl, ho4, hm4, hb4⟩
          have hS4 := hS3.below hB3 hb4
          clear e0 e1 e2 e3 e4 e5 u0 u1 u2 u3
          obtain ⟨e0, e1, e2, e3, e4, e5⟩ := dgC hS4.blk
          obtain ⟨f0, f1, f2, f3, f4, f5⟩ := dgF hS4.blk
          have hl1 : (ms ++ [(chooseF l ms pool2 sty2)]).length = ms.length + 1 := by simp
          have hA4 : A4 = none → l = [] ∧ c4 = 0 := fun en => by
            obtain ⟨A', c', e', _, hn⟩ := OwnP.form2 ho4
            injection e' with e1 _ e2
            subst e1 e2
            exact hn en
          have hb6 := set6 hS4.blk (.int .i64 (n : Int)) (.slice A4 l.length c4) (.int .i64 root) (.int .i64 l0) (.int .i64 l1) (.slice M4 (ms.length + 1) cm4)
          have Hlw := Lib.hid (lenW_eq (dgC hb6).2.2.2.2.2)
          have Hlo := Lib.hid (lenW_eq e5')
          have HNew := Lib.hid (show RunS w.heap.size wb.heap.size wb n l root l0 l1 (ms ++ [(chooseF l ms pool2 sty2)]) A4 c4 M4 cm4 ((((((w4.setCell ⟨w.heap.size, 0, none⟩ (.int .i64 (n : Int))).setCell ⟨w.heap.size, 1, none⟩ (.slice A4 l.length c4)).setCell ⟨w.heap.size, 2, none⟩ (.int .i64 root)).setCell ⟨w.heap.size, 3, none⟩ (.int .i64 l0)).setCell ⟨w.heap.size, 4, none⟩ (.int .i64 l1)).setCell ⟨w.heap.size, 5, none⟩ (.slice M4 (ms.length + 1) cm4)) from
            ⟨by rw [hl1]; exact hb6, own_set6 (ownsRow_mono ho4 hB3) (by omega) .., own_set6 (OwnM.mono hm4 hB3) (by omega) .., near_set6 hS4.near ..⟩)
          have HA4 := Lib.hid hA4
          clear hS3 hS4 ho4 hm4 hb4 hb6 hA4 hl1 e5'
          go_wp2_with fail
          go_roundw
          case rel => exact ⟨_, _, f', A4, c4, M4, cm4, rfl, Hok'.out, by rw [← Hstep.out]; exact Hrun.out, by simp; omega, by simp; omega, HA4.out, HNew.out⟩
          case measure =>
            rw [Hlw.out, Hlo.out]; omega
end Go.Proofs.Ythkknlnfdckdfaa
