/- The walk of the statement DynamicRuns (printed by gen_runw.py). -/
import Derived.Test.YtkflanjlnbdkmaaGreatDoorRunA
import Derived.Deep.CutBlock
namespace Go.Proofs.YtkflanjlnbdkmaaGreatDoor
open Go.ChangeShapes Go.WideShapes Go.ChangeAt Go.RowKit

/-- a list of changes as a value -/
structure CsV where
  l : List (Int × Int × Int)
  A : Option Addr
  c : Nat
theorem RC.take {w : World} {A : Option Addr} {cs : List (Int × Int × Int)} (h : RC w A cs) (m : Nat) : RC w A (cs.take m) := fun k hk => by
  have hk2 : k < m ∧ k < cs.length := by rw [List.length_take] at hk; omega
  obtain ⟨b, o, hA, h0⟩ := h k hk2.2
  refine ⟨b, o, hA, ?_⟩
  have e : (cs.take m).getD k (0, 0, 0) = cs.getD k (0, 0, 0) := by simp only [List.getD]; rw [List.getElem?_take_of_lt hk2.1]
  rw [e]
  exact h0
theorem made_zero {m i : Nat} (h : i < m) : (madeCells #[.int .i64 0, .int .i64 0, .int .i64 0] m)[i]? = some (.int .i64 0) := by
  have e : i % 3 = 0 ∨ i % 3 = 1 ∨ i % 3 = 2 := by omega
  simp only [madeCells, Array.getElem?_map, Array.getElem?_range, h, if_true, Option.map_some]
  rcases e with e | e | e <;> simp [e]
theorem rc_made (w : World) (z : Nat) (t : TypeId) : RC (w.alloc (.cells (madeCells #[.int .i64 0, .int .i64 0, .int .i64 0] (z * 3)) t)) (some ⟨w.heap.size, 0, none⟩) (List.replicate z (0, 0, 0)) := fun k hk => by
  rw [List.length_replicate] at hk
  have hb := Blk.new w t (madeCells #[.int .i64 0, .int .i64 0, .int .i64 0] (z * 3))
  have e : (List.replicate z ((0 : Int), (0 : Int), (0 : Int))).getD k (0, 0, 0) = (0, 0, 0) := by simp [List.getD, hk]
  rw [e]
  exact ⟨w.heap.size, 0, rfl, by rw [hb.cell]; exact made_zero (by omega), by rw [hb.cell]; exact made_zero (by omega), by rw [hb.cell]; exact made_zero (by omega)⟩
theorem run_makeC (z : Nat) (hz : z ≤ 1000) (w : World) : (Instr.makeSlice 40 (.int .i64 (z : Int)) (.int .i64 (z : Int))).run Tryz.prog w = .ok (.slice (some ⟨w.heap.size, 0, none⟩) z z) (w.alloc (.cells (madeCells #[.int .i64 0, .int .i64 0, .int .i64 0] (z * 3)) 29)) := by
  obtain ⟨i0, hi, h0, h1, h2⟩ := info_parts info_chg
  have := run_make (P := Tryz.prog) w 40 29 i0 _ Tryz.underlying40 hi h0 .i64 .i64 z z (by omega) (Int.le_refl _) (by rw [h2]; omega) (by omega)
  rw [h1, Int.toNat_natCast] at this
  exact this
/-- the row of two states at A -/
def RD2 (w : World) (A : Option Addr) (sv : Nat → DSv) : Prop := ∀ j, j < 2 → ∃ b o, A = some ⟨b, o, none⟩ ∧ w.cell? ⟨b, o + j * 3, none⟩ = some (.int .i64 (sv j).N) ∧ w.cell? ⟨b, o + j * 3 + 1, none⟩ = some (.slice (sv j).A (sv j).l.length (sv j).c) ∧ w.cell? ⟨b, o + j * 3 + 2, none⟩ = some (.slice (sv j).B (sv j).b.length (sv j).d)
theorem RD2.below {w w' : World} {A : Option Addr} {sv : Nat → DSv} (h : RD2 w A sv) (hb : Below w.heap.size w w') : RD2 w' A sv := fun j hj => by
  obtain ⟨b, o, hA, h0, h1, h2⟩ := h j hj
  exact ⟨b, o, hA, (hb.cell (lt_of_cell h0)).trans h0, (hb.cell (lt_of_cell h1)).trans h1, (hb.cell (lt_of_cell h2)).trans h2⟩
theorem rd_two {w : World} {g : Nat} {t : TypeId} {x0 x1 : DSv} (h : Blk w g t #[.int .i64 x0.N, .slice x0.A x0.l.length x0.c, .slice x0.B x0.b.length x0.d, .int .i64 x1.N, .slice x1.A x1.l.length x1.c, .slice x1.B x1.b.length x1.d]) :
    RD2 w (some ⟨g, 0, none⟩) (sv5 x0 x1 x1 x1 x1) := fun j hj => by
  refine ⟨g, 0, rfl, ?_⟩
  match j, hj with
  | 0, _ => exact ⟨by rw [h.cell]; rfl, by rw [h.cell]; rfl, by rw [h.cell]; rfl⟩
  | 1, _ => exact ⟨by rw [h.cell]; rfl, by rw [h.cell]; rfl, by rw [h.cell]; rfl⟩
/-- the row of four lists of changes -/
def RG (w : World) (A : Option Addr) (ys : Nat → CsV) : Prop := ∀ i, i < 4 → (∃ b o, A = some ⟨b, o, none⟩ ∧ w.cell? ⟨b, o + i, none⟩ = some (.slice (ys i).A (ys i).l.length (ys i).c)) ∧ RC w (ys i).A (ys i).l
theorem RG.below {w w' : World} {A : Option Addr} {ys : Nat → CsV} (h : RG w A ys) (hb : Below w.heap.size w w') : RG w' A ys := fun j hj => by
  obtain ⟨⟨b, o, hA, h0⟩, h1⟩ := h j hj
  exact ⟨⟨b, o, hA, (hb.cell (lt_of_cell h0)).trans h0⟩, h1.below hb⟩
def ys4 (y0 y1 y2 y3 : CsV) : Nat → CsV
  | 0 => y0
  | 1 => y1
  | 2 => y2
  | _ => y3
theorem rg_four {w : World} {g : Nat} {t : TypeId} {y0 y1 y2 y3 : CsV} (h : Blk w g t #[.slice y0.A y0.l.length y0.c, .slice y1.A y1.l.length y1.c, .slice y2.A y2.l.length y2.c, .slice y3.A y3.l.length y3.c])
    (h0 : RC w y0.A y0.l) (h1 : RC w y1.A y1.l) (h2 : RC w y2.A y2.l) (h3 : RC w y3.A y3.l) : RG w (some ⟨g, 0, none⟩) (ys4 y0 y1 y2 y3) := fun j hj => by
  match j, hj with
  | 0, _ => exact ⟨⟨g, 0, rfl, by rw [h.cell]; rfl⟩, h0⟩
  | 1, _ => exact ⟨⟨g, 0, rfl, by rw [h.cell]; rfl⟩, h1⟩
  | 2, _ => exact ⟨⟨g, 0, rfl, by rw [h.cell]; rfl⟩, h2⟩
  | 3, _ => exact ⟨⟨g, 0, rfl, by rw [h.cell]; rfl⟩, h3⟩
theorem shapeK {w : World} {b : Nat} {v : Value} {l : List Int} (h : OwnI w b v l) : ∃ A k c, v = .slice A k c := by
  obtain ⟨A, c, e⟩ := shapeI h
  exact ⟨A, _, c, e⟩
/-- what lies in memory while the lists are made -/
structure RuB (p g n : Nat) (l : List (Int × Int)) (G : List Int) (A9 : Option Addr) (c9 : Nat) (B9 : Option Addr) (d9 : Nat) (A0 : Option Addr) (raw : List (Int × Int × Int)) (w wx : World) : Prop where
  k6 : Blk wx g 27 #[.int .i64 (n : Int), .slice A9 l.length c9, .slice B9 G.length d9]
  src : SrcOk wx p
  good : DSt p ⟨n, l, A9, c9, G, B9, d9⟩ wx
  rc : RC wx A0 raw
  ra : ∀ b o, A0 = some ⟨b, o, none⟩ → 0 < raw.length → b < p
  bl : Below w.heap.size w wx
  hp : w.heap.size ≤ p
  hg : p < g
theorem RC.grownE {w w' : World} {A : Option Addr} {cs : List (Int × Int × Int)} {p : Nat} (h : RC w A cs) (hg : w.grownBy w' (some p)) (hp : ∀ b o, A = some ⟨b, o, none⟩ → 0 < cs.length → b ≠ p) : RC w' A cs := by
  by_cases hl : 0 < cs.length
  · exact h.grown hg fun b o e => hp b o e hl
  · intro k hk; omega
theorem RuB.below {p g n : Nat} {l : List (Int × Int)} {G : List Int} {A9 : Option Addr} {c9 : Nat} {B9 : Option Addr} {d9 : Nat} {A0 : Option Addr} {raw : List (Int × Int × Int)} {w wx wy : World} (h : RuB p g n l G A9 c9 B9 d9 A0 raw w wx) (hb : Below wx.heap.size wx wy) : RuB p g n l G A9 c9 B9 d9 A0 raw w wy :=
  ⟨h.k6.below hb h.k6.lt, h.src.kept hb, h.good.below hb, h.rc.below hb, h.ra, endB h.bl hb, h.hp, h.hg⟩
theorem RuB.grown {p g n : Nat} {l : List (Int × Int)} {G : List Int} {A9 : Option Addr} {c9 : Nat} {B9 : Option Addr} {d9 : Nat} {A0 : Option Addr} {raw : List (Int × Int × Int)} {w wx wy : World} (h : RuB p g n l G A9 c9 B9 d9 A0 raw w wx) (hg : wx.grownBy wy (some p)) (hs : SrcOk wy p) : RuB p g n l G A9 c9 B9 d9 A0 raw w wy :=
  ⟨h.k6.grown hg (fun e => by injection e with e; have := h.hg; omega), hs, h.good.grown hg, h.rc.grownE hg (fun b o e hl => by have := h.ra b o e hl; omega), h.ra, h.bl.grown hg h.bl.size (fun k hk => by injection hk with hk; have := h.hp; omega), h.hp, h.hg⟩
theorem OwnC.src {w w' : World} {m p : Nat} {v : Value} {l : List (Int × Int × Int)} (h : OwnC w m v l) (hs : SrcOk w p) (hp : p < m) (hg : w.grownBy w' v.ownBlock) : SrcOk w' p :=
  hs.other hg fun k hk => Nat.lt_of_lt_of_le hp (World.ownsRow.lt h k hk).1
theorem grown_below {wr w w' : World} {r : Option Nat} (hg : wr.grownBy w r) (hb : Below wr.heap.size w w') : wr.grownBy w' r :=
  ⟨hb.os.trans hg.os, hb.tape.trans hg.tape, hb.output.trans hg.output, Nat.le_trans hg.size hb.size, fun j hj hne => (hb.block j hj).trans (hg.block j hj hne)⟩
theorem RC.lt_ {w : World} {A : Option Addr} {cs : List (Int × Int × Int)} (h : RC w A cs) {b o : Nat} (hA : A = some ⟨b, o, none⟩) (hl : 0 < cs.length) : b < w.heap.size := by
  obtain ⟨b', o', e, hc, _⟩ := h 0 hl
  rw [hA] at e; injection e with e; injection e with e _ _; subst e
  exact lt_of_cell hc
set_option maxRecDepth 100000 in
set_option maxHeartbeats 8000000 in
theorem runs_law_any (A0 : Option Addr) (raw : List (Int × Int × Int)) (c0 : Nat) (AR : Option Addr) (arg : List Int) (cr : Nat) (w : World)
    (hlc0 : raw.length ≤ c0) (hc0 : c0 ≤ 9223372036854775807) (hr0 : RC w A0 raw) (hn0 : A0 = none → raw = [] ∧ c0 = 0)
    (hlc : arg.length ≤ cr) (hc : cr ≤ 9223372036854775807) (hr : RI w AR arg) (hx : ∀ x ∈ arg, -9223372036854775808 ≤ x ∧ x ≤ 9223372036854775807) (hT : Tab w) :
    Calls Tryz.prog 4 #[.slice A0 raw.length c0, .slice AR arg.length cr] w (RetB (.bool true) w) := by
  have htab : 0 < w.heap.size := lt_of_cell (hT 0 (by omega))
  have HT0 := Lib.hid hT
  have HN0 := Lib.hid hn0
  go_enter Tryz.func4, Tryz.ntmps4
  go_wp2_with fail
  refine (new_any AR arg cr w hlc hc hr hx).mono ?_
  rintro e w1 ⟨p, rfl, hp, hs1, hb1⟩
  have hr1 := hr0.below hb1
  have hra : ∀ b o, A0 = some ⟨b, o, none⟩ → 0 < raw.length → b < p := fun b o e hl => by have := hr0.lt_ e hl; omega
  have hp1 := hs1.lt
  clear hr hx hT hr0 hn0
  go_wp2_with fail
  refine (graph2_any p 6 w1 hs1 (by omega)).mono ?_
  rintro e w2 ⟨n, l, AG, cg, rfl, hN, hv, hrp, hloc, hs2, hg2, hAn⟩
  have hbb2 : Below w.heap.size w w2 := hb1.grown hg2 hb1.size (fun k hk => by injection hk with hk; omega)
  have hr2 := hr1.grownE hg2 (fun b o e hl => by have := hra b o e hl; omega)
  have hp2 := hs2.lt
  have HV := Lib.hid hv
  have hd := r19New_any AG n l cg w2 hrp hAn hv.1.2.1
  rw [nGn_vld hv, nGl_vld hv, hv.valE, show gLb n l = lst n (grL n l) by unfold gLb; rw [nGn_vld hv, nGl_vld hv, Int.toNat_natCast]] at hd
  have hGl : (lst n (grL n l)).length ≤ 100000 := by rw [lst_length]; omega
  generalize lst n (grL n l) = G at *
  have Hd := Lib.hid hd
  clear hs1 hb1 hg2 hv hAn hrp hloc hr1 hd
  go_wp2_with fail
  refine Hd.out.mono ?_
  rintro e w3 ⟨A9, c9, B9, d9, rfl, hop, hoi, hb3⟩
  have hgood := DSt.of_own (p := p) (N := (n : Int)) hop hoi hp2 HV.out.1.2.1 hGl
  have hs3 := hs2.kept hb3
  have hr3 := hr2.below hb3
  have hbb3 := endB hbb2 hb3
  have hp3 := hs3.lt
  clear Hd hop hoi hb3 hs2 hr2 hbb2
  go_upto_region 3 with fail
  obtain ⟨W4, hW4, k64, hb4, _⟩ := boxed3 w3 27 (.int .i64 (n : Int)) (.slice A9 l.length c9) (.slice B9 G.length d9)
  rw [hW4]
  have hru : RuB p w3.heap.size n l G A9 c9 B9 d9 A0 raw w W4 := ⟨k64, hs3.kept hb4, hgood.below hb4, hr3.below hb4, hra, endB hbb3 hb4, hp, hp3⟩
  obtain ⟨g, hgq⟩ : ∃ g, w3.heap.size = g := ⟨_, rfl⟩
  rw [hgq] at hru ⊢
  have hp4 := hru.src.lt
  have hgp : p < g := by omega
  clear hW4 k64 hb4 hs3 hgood hr3 hbb3 hra hgq
  go_wp2_with fail
  refine (n_any p 12 W4 hru.src (by omega) (by omega)).mono ?_
  rintro e w5 ⟨v5, rfl, hv50, hv51, hs5, hg5⟩
  have hru5 := hru.grown hg5 hs5
  obtain ⟨z5, hz5⟩ : ∃ z : Nat, v5 = z := ⟨v5.toNat, by omega⟩
  subst hz5
  have Hru := Lib.hid hru5
  have hp5 := hs5.lt
  clear hru hru5 hg5 hs5
  go_wp2_with fail
  go_loopw [8, 9] (fun v8 s9 wr => ∃ (k : Nat) (cs : List (Int × Int × Int)), k ≤ 12 ∧ s9 = .int .i64 k ∧ cs.length + k ≤ 12 ∧ OwnC wr w5.heap.size v8 cs ∧ SrcOk wr p ∧ w5.grownBy wr (some p)) (fun _ s9 _ => (intOf s9).toNat)
  case atStart => exact ⟨z5, [], by omega, rfl, by simp; omega, OwnC.nil _ _, Hru.out.src, grownBy_of_below (Below.refl _ _) _⟩
  case round =>
    obtain ⟨k, cs, hk, rfl, hck, ho, hs, hg⟩ := hrel
    by_cases hk0 : 0 < k
    case pos =>
      have hk0' : (0 : Int) < (k : Int) := by omega
      have Ho := Lib.hid ho
      obtain ⟨A8, c8, rfl, _⟩ := ho.form
      clear ho
      go_wp2_with fail
      refine (change_any p 6 wr hs (by omega) (by omega)).mono ?_
      rintro e w6 ⟨k', f', t', rfl, hs6, hg6⟩
      have Ho6 := Lib.hid (OwnC.grown Ho.out hg6 hp5)
      have hg56 := grownBy_trans hg hg6
      have hsz := hg56.size
      clear Ho hs hg hg6
      go_wp2_with (at_builtin; refine wpList_appC (by rfl) _ _ (by rfl) w6 w5.heap.size _ cs k' f' t' Ho6.out (by rfl) (by rfl) (by omega) hsz ?_; intro v' w8 hown8 hb8 hg8; have Hown8 := Lib.hid hown8; have Hb8 := Lib.hid hb8; have Hg8 := Lib.hid hg8; clear hown8 hb8 hg8)
      go_roundw
      case rel => exact ⟨k - 1, cs ++ [(k', f', t')], by omega, by go_num, by simp; omega, Hown8.out, OwnC.src Ho6.out hs6 hp5 Hg8.out, grown_below hg56 Hb8.out⟩
      case measure => simp [intOf]; omega
    case neg =>
    have hk0' : ¬ (0 : Int) < (k : Int) := by omega
    have hcs12 : cs.length ≤ 12 := by omega
    have hru6 := Hru.out.grown hg hs
    obtain ⟨A8, c8, rfl, hrc8⟩ := ho.form
    have ha8 : ∀ b o, A8 = some ⟨b, o, none⟩ → b ≠ p := fun b o e => by have := (World.ownsRow.lt ho b (by rw [e]; rfl)).1; omega
    clear ho hg hs hk0 hck
    go_wp2_with fail
    refine (n_any p 2 wr hru6.src (by omega) (by omega)).mono ?_
    rintro e w7 ⟨v7, rfl, hv70, hv71, hs7, hg7⟩
    have hru7 := hru6.grown hg7 hs7
    have hrc7 := hrc8.grown hg7 ha8
    obtain ⟨z, hz⟩ : ∃ z : Nat, 200 + v7 = z := ⟨(200 + v7).toNat, by omega⟩
    have hz201 : z ≤ 201 := by omega
    have hwz : IntKind.i64.wrap (200 + v7) = (z : Int) := by rw [IntKind.wrap_i64]; omega
    have hmk := run_makeC z (by omega) w7
    clear hru6 hrc8 hg7 hs7 hz
    go_upto_region 9 with fail
    obtain ⟨wr, hwr, hrcz, hbz⟩ : ∃ W, W = w7.alloc (.cells (madeCells #[.int .i64 0, .int .i64 0, .int .i64 0] (z * 3)) 29) ∧ RC W (some ⟨w7.heap.size, 0, none⟩) (List.replicate z (0, 0, 0)) ∧ Below w7.heap.size w7 W := ⟨_, rfl, rc_made w7 z _, newB _ _⟩
    rw [← hwr]
    have hap := hru7.below hbz
    have hrc9 := hrc7.below hbz
    have haz : p < w7.heap.size := hru7.src.lt
    obtain ⟨gz, hgz⟩ : ∃ x, w7.heap.size = x := ⟨_, rfl⟩
    rw [hgz] at hrcz haz ⊢
    have hpw := hap.src.lt
    clear hwr hbz hru7 hrc7 hmk hwz hv70 hv71 hgz
    go_cut [11] (fun s11 wx => ∃ q Bx kx dx, s11 = Value.pointer (some ⟨q, 0, none⟩) ∧ OddJ wr p q n A9 l c9 Bx kx dx wx)
    case first =>
      refine wp_region_tree [6, 8, 9] (fun w' => SrcOk w' p ∧ wr.grownBy w' (some p)) (fun w' => BxO none wr.heap.size w') 10 [0, 1, 2, 3, 4, 5, 6, 7, 8, 9] (by rfl) (by decide) (by kernel_rfl) (by kernel_rfl) ⟨hap.src.kept (Below.refl _ _).drew, grownBy_of_below (Below.refl _ _).drew _⟩ BxO.no ?_
      refine TxtT.pure 0 (by rfl) (by rw [List.getElem?_toArray]; rfl) (by rfl) (by kernel_rfl) (by rfl) ?_; apply Exists.intro; refine ⟨fun w1 hS1 => ?_, ?_⟩; (focus (skip; go_simp; with_reducible rfl))
      rw [show List.erase [0, 1, 2, 3, 4, 5, 6, 7, 8, 9] 0 = [1, 2, 3, 4, 5, 6, 7, 8, 9] from rfl]; simp only [Act.put, List.setIfInBounds_toArray, List.set_cons_zero, List.set_cons_succ]
      refine TxtT.pure 1 (by rfl) (by rw [List.getElem?_toArray]; rfl) (by rfl) (by kernel_rfl) (by rfl) ?_; apply Exists.intro; refine ⟨fun w1 hS1 => ?_, ?_⟩; (focus ((obtain ⟨g0, g1, g2, _, _, _⟩ := (hap.k6.grown hS1.2 (fun e => by injection e with e; omega)).threeF); go_simp; with_reducible rfl))
      rw [show List.erase [1, 2, 3, 4, 5, 6, 7, 8, 9] 1 = [2, 3, 4, 5, 6, 7, 8, 9] from rfl]; simp only [Act.put, List.setIfInBounds_toArray, List.set_cons_zero, List.set_cons_succ]
      refine TxtT.pure 2 (by rfl) (by rw [List.getElem?_toArray]; rfl) (by rfl) (by kernel_rfl) (by rfl) ?_; apply Exists.intro; refine ⟨fun w1 hS1 => ?_, ?_⟩; (focus (skip; go_simp; with_reducible rfl))
      rw [show List.erase [2, 3, 4, 5, 6, 7, 8, 9] 2 = [3, 4, 5, 6, 7, 8, 9] from rfl]; simp only [Act.put, List.setIfInBounds_toArray, List.set_cons_zero, List.set_cons_succ]
      refine TxtT.pure 3 (by rfl) (by rw [List.getElem?_toArray]; rfl) (by rfl) (by kernel_rfl) (by rfl) ?_; apply Exists.intro; refine ⟨fun w1 hS1 => ?_, ?_⟩; (focus (skip; go_simp; with_reducible rfl))
      rw [show List.erase [3, 4, 5, 6, 7, 8, 9] 3 = [4, 5, 6, 7, 8, 9] from rfl]; simp only [Act.put, List.setIfInBounds_toArray, List.set_cons_zero, List.set_cons_succ]
      refine TxtT.pure 4 (by rfl) (by rw [List.getElem?_toArray]; rfl) (by rfl) (by kernel_rfl) (by rfl) ?_; apply Exists.intro; refine ⟨fun w1 hS1 => ?_, ?_⟩; (focus (skip; go_simp; with_reducible rfl))
      rw [show List.erase [4, 5, 6, 7, 8, 9] 4 = [5, 6, 7, 8, 9] from rfl]; simp only [Act.put, List.setIfInBounds_toArray, List.set_cons_zero, List.set_cons_succ]
      refine TxtT.pure 5 (by rfl) (by rw [List.getElem?_toArray]; rfl) (by rfl) (by kernel_rfl) (by rfl) ?_; apply Exists.intro; refine ⟨fun w1 hS1 => ?_, ?_⟩; (focus ((obtain ⟨g0, g1, g2, _, _, _⟩ := (hap.k6.grown hS1.2 (fun e => by injection e with e; omega)).threeF); go_simp; with_reducible rfl))
      rw [show List.erase [5, 6, 7, 8, 9] 5 = [6, 7, 8, 9] from rfl]; simp only [Act.put, List.setIfInBounds_toArray, List.set_cons_zero, List.set_cons_succ]
      refine TxtT.two 6 8 (by kernel_rfl) (by rw [List.getElem?_toArray]; rfl) (by rw [List.getElem?_toArray]; rfl) (by rfl) (by rfl) (by rfl) (by rfl) (fun v => ∃ Bx kx dx, v = Value.slice Bx kx dx) (fun v w' => BxO none wr.heap.size w' ∧ (∃ x, OwnI w' wr.heap.size v x ∧ labB n x = true) ∧ ∀ q', (none : Option Nat) = some q' → v.ownBlock ≠ some q') (fun v => ∃ q, v = Value.pointer (some ⟨q, 0, none⟩)) (fun v w' => ∃ q, v = Value.pointer (some ⟨q, 0, none⟩) ∧ BxO (some q) wr.heap.size w') (fun w1 hS1 hJ1 => ?_) (fun w1 hS1 hJ1 => ?_) ?_ ?_
      · refine Eff.call (f := 10) (args := #[.pointer (some ⟨p, 0, none⟩), .int .i64 (n : Int)]) (by go_simp) ((labels_any p n w1 hS1.1 (by omega)).mono ?_)
        rintro e w' ⟨x, v, rfl, ho, hlx, hs, hg⟩
        obtain ⟨A9, k9, c9, e9⟩ := shapeK ho
        exact ⟨_, rfl, ⟨hs, grownBy_trans hS1.2 hg⟩, ⟨A9, k9, c9, e9⟩, BxO.grown hJ1 hg (by have := hS1.2.size; omega), ⟨x, ho.mono hS1.2.size, hlx⟩, fun q hq e => by have := (World.ownsRow.lt ho q e).1; have := (hJ1 q hq).2.lt; omega⟩
      · refine Eff.value (w' := w1.alloc (.cells #[.int .i64 0, .slice none 0 0, .slice none 0 0] 27)) (v := .pointer (some ⟨w1.heap.size, 0, none⟩)) (by go_simp) ⟨⟨hS1.1.kept (newB _ _), grownBy_trans hS1.2 (grownBy_of_below (newB _ _) _)⟩, ⟨_, rfl⟩, _, rfl, BxO.new hS1.2.size⟩
      ·
        rintro _ ⟨Bx, kx, dx, rfl⟩
        rw [show List.erase [6, 7, 8, 9] 6 = [7, 8, 9] from rfl]; simp only [Act.put, List.setIfInBounds_toArray, List.set_cons_zero, List.set_cons_succ]
        refine TxtT.pure 7 (by rfl) (by rw [List.getElem?_toArray]; rfl) (by rfl) (by kernel_rfl) (by rfl) ?_; apply Exists.intro; refine ⟨fun w1 hS1 => ?_, ?_⟩; (focus (skip; go_simp; with_reducible rfl))
        rw [show List.erase [7, 8, 9] 7 = [8, 9] from rfl]; simp only [Act.put, List.setIfInBounds_toArray, List.set_cons_zero, List.set_cons_succ]
        refine TxtT.one 8 (by kernel_rfl) (by rw [List.getElem?_toArray]; rfl) (by rfl) (by rfl) (fun v => ∃ q, v = Value.pointer (some ⟨q, 0, none⟩)) (fun v w' => ∃ q, v = Value.pointer (some ⟨q, 0, none⟩) ∧ BxO (some q) wr.heap.size w' ∧ (∃ x, OwnI w' wr.heap.size (.slice Bx kx dx) x ∧ labB n x = true) ∧ ∀ q', some q = some q' → (Value.slice Bx kx dx).ownBlock ≠ some q') (fun w1 hS1 hJ1 => ?_) ?_
        · refine Eff.value (w' := w1.alloc (.cells #[.int .i64 0, .slice none 0 0, .slice none 0 0] 27)) (v := .pointer (some ⟨w1.heap.size, 0, none⟩)) (by go_simp) ⟨⟨hS1.1.kept (newB _ _), grownBy_trans hS1.2 (grownBy_of_below (newB _ _) _)⟩, ⟨_, rfl⟩, _, rfl, BxO.new hS1.2.size, hJ1.2.1.imp fun x hx => ⟨OwnI.below hx.1 (newB _ _), hx.2⟩, fun q' hq' e => by obtain ⟨x, hx, _⟩ := hJ1.2.1; have := (World.ownsRow.lt hx q' e).2; injection hq' with hq'; omega⟩
        rintro _ ⟨q, rfl⟩
        rw [show List.erase [8, 9] 8 = [9] from rfl]; simp only [Act.put, List.setIfInBounds_toArray, List.set_cons_zero, List.set_cons_succ]
        refine TxtT.weakJ (J2 := fun w' => BxO (some q) wr.heap.size w' ∧ (∃ x, OwnI w' wr.heap.size (.slice Bx kx dx) x ∧ labB n x = true) ∧ ∀ q', some q = some q' → (Value.slice Bx kx dx).ownBlock ≠ some q') (fun w1 h => by obtain ⟨q', hq, h⟩ := h; injection hq with hq; injection hq with hq; injection hq with hq _ _; subst hq; exact h) ?_
        refine TxtT.one 9 (by kernel_rfl) (by rw [List.getElem?_toArray]; rfl) (by rfl) (by rfl) (fun v => v = undef) (fun _ w' => OddJ wr p q n A9 l c9 Bx kx dx w') (fun w1 hS1 hJ1 => ?_) ?_
        · obtain ⟨hbx, ho, hne⟩ := hJ1
          obtain ⟨hq, hk⟩ := hbx q rfl
          obtain ⟨g0, g1, g2, z0, z1, z2⟩ := hk.threeF
          have hst := OddJ.of_store (n := n) (AG := A9) (l := l) (cg := c9) hS1.1 hS1.2 hpw hq hk ho (hne q rfl)
          exact Eff.skip (w' := ((w1.setCell ⟨q, 0, none⟩ (.int .i64 (n : Int))).setCell ⟨q, 1, none⟩ (.slice A9 l.length c9)).setCell ⟨q, 2, none⟩ (.slice Bx kx dx)) (by go_simp) ⟨⟨hst.src, hst.grown⟩, rfl, hst⟩
        rintro _ rfl
        rw [show List.erase [9] 9 = [] from rfl]; simp only [Act.put]
        refine ⟨rfl, fun w1 hS1 hJ1 => ?_⟩
        go_wp2_with fail
        go_meet
        exact ⟨q, Bx, kx, dx, rfl, hJ1⟩
      ·
        rintro _ ⟨q, rfl⟩
        rw [show List.erase [6, 7, 8, 9] 8 = [6, 7, 9] from rfl]; simp only [Act.put, List.setIfInBounds_toArray, List.set_cons_zero, List.set_cons_succ]
        refine TxtT.weakJ (J2 := fun w' => BxO (some q) wr.heap.size w') (fun w1 h => by obtain ⟨q', hq, h⟩ := h; injection hq with hq; injection hq with hq; injection hq with hq _ _; subst hq; exact h) ?_
        refine TxtT.one 6 (by kernel_rfl) (by rw [List.getElem?_toArray]; rfl) (by rfl) (by rfl) (fun v => ∃ Bx kx dx, v = Value.slice Bx kx dx) (fun v w' => BxO (some q) wr.heap.size w' ∧ (∃ x, OwnI w' wr.heap.size v x ∧ labB n x = true) ∧ ∀ q', (some q) = some q' → v.ownBlock ≠ some q') (fun w1 hS1 hJ1 => ?_) ?_
        · refine Eff.call (f := 10) (args := #[.pointer (some ⟨p, 0, none⟩), .int .i64 (n : Int)]) (by go_simp) ((labels_any p n w1 hS1.1 (by omega)).mono ?_)
          rintro e w' ⟨x, v, rfl, ho, hlx, hs, hg⟩
          obtain ⟨A9, k9, c9, e9⟩ := shapeK ho
          exact ⟨_, rfl, ⟨hs, grownBy_trans hS1.2 hg⟩, ⟨A9, k9, c9, e9⟩, BxO.grown hJ1 hg (by have := hS1.2.size; omega), ⟨x, ho.mono hS1.2.size, hlx⟩, fun q hq e => by have := (World.ownsRow.lt ho q e).1; have := (hJ1 q hq).2.lt; omega⟩
        rintro _ ⟨Bx, kx, dx, rfl⟩
        rw [show List.erase [6, 7, 9] 6 = [7, 9] from rfl]; simp only [Act.put, List.setIfInBounds_toArray, List.set_cons_zero, List.set_cons_succ]
        refine TxtT.pure 7 (by rfl) (by rw [List.getElem?_toArray]; rfl) (by rfl) (by kernel_rfl) (by rfl) ?_; apply Exists.intro; refine ⟨fun w1 hS1 => ?_, ?_⟩; (focus (skip; go_simp; with_reducible rfl))
        rw [show List.erase [7, 9] 7 = [9] from rfl]; simp only [Act.put, List.setIfInBounds_toArray, List.set_cons_zero, List.set_cons_succ]
        refine TxtT.one 9 (by kernel_rfl) (by rw [List.getElem?_toArray]; rfl) (by rfl) (by rfl) (fun v => v = undef) (fun _ w' => OddJ wr p q n A9 l c9 Bx kx dx w') (fun w1 hS1 hJ1 => ?_) ?_
        · obtain ⟨hbx, ho, hne⟩ := hJ1
          obtain ⟨hq, hk⟩ := hbx q rfl
          obtain ⟨g0, g1, g2, z0, z1, z2⟩ := hk.threeF
          have hst := OddJ.of_store (n := n) (AG := A9) (l := l) (cg := c9) hS1.1 hS1.2 hpw hq hk ho (hne q rfl)
          exact Eff.skip (w' := ((w1.setCell ⟨q, 0, none⟩ (.int .i64 (n : Int))).setCell ⟨q, 1, none⟩ (.slice A9 l.length c9)).setCell ⟨q, 2, none⟩ (.slice Bx kx dx)) (by go_simp) ⟨⟨hst.src, hst.grown⟩, rfl, hst⟩
        rintro _ rfl
        rw [show List.erase [9] 9 = [] from rfl]; simp only [Act.put]
        refine ⟨rfl, fun w1 hS1 hJ1 => ?_⟩
        go_wp2_with fail
        go_meet
        exact ⟨q, Bx, kx, dx, rfl, hJ1⟩
    obtain ⟨q, Bx, kx, dx, rfl, hJ⟩ := hcut
    obtain ⟨W11, hW11⟩ : ∃ W, W = wc := ⟨_, rfl⟩
    subst hW11
    obtain ⟨hq0, kq, ⟨x, hox, hlx⟩, hs11, hg11⟩ := hJ
    obtain ⟨A', c', e', hrx, hnx⟩ := OwnI.form2 hox
    injection e' with e1 e2 e3
    subst e1 e2 e3
    have hxl := (labB_iff.1 hlx).1
    have hru11 := hap.grown hg11 hs11
    have ho11 : DSt p ⟨n, l, A9, c9, x, Bx, dx⟩ W11 := ⟨hru11.good.rp, hru11.good.an, hru11.good.ll, hrx, hnx, by simp only; omega, hru11.good.ap, fun b o e _ => by have := (World.ownsRow.lt hox b (by simp only at e; rw [e]; rfl)).1; omega⟩
    have hrc11 := hrc9.grown hg11 ha8
    have hrz11 := hrcz.grown hg11 (fun b o e => by injection e with e; injection e with e _ _; omega)
    have hpq : p < q := by omega
    obtain ⟨a0, a1, a2, _, _, _⟩ := hru11.k6.threeF
    obtain ⟨q0, q1, q2, _, _, _⟩ := kq.threeF
    clear hap hox hlx hrx hnx hg11 hs11 hxl hrc9 hrcz ha8
    go_upto_region 11 with fail
    obtain ⟨W14, hW14⟩ : ∃ W, W11.alloc (.cells #[.int .i64 (n : Int), .slice A9 l.length c9, .slice B9 G.length d9, .int .i64 (n : Int), .slice A9 l.length c9, .slice Bx x.length dx] 27) = W := ⟨_, rfl⟩
    have hb14 := newB W11 (.cells #[.int .i64 (n : Int), .slice A9 l.length c9, .slice B9 G.length d9, .int .i64 (n : Int), .slice A9 l.length c9, .slice Bx x.length dx] 27)
    have kD : Blk W14 W11.heap.size 27 #[.int .i64 (n : Int), .slice A9 l.length c9, .slice B9 G.length d9, .int .i64 (n : Int), .slice A9 l.length c9, .slice Bx x.length dx] := by rw [← hW14]; exact Blk.new _ _ _
    rw [hW14] at hb14 ⊢
    have hRD : RD2 W14 (some ⟨W11.heap.size, 0, none⟩) (sv5 ⟨n, l, A9, c9, G, B9, d9⟩ ⟨n, l, A9, c9, x, Bx, dx⟩ ⟨n, l, A9, c9, x, Bx, dx⟩ ⟨n, l, A9, c9, x, Bx, dx⟩ ⟨n, l, A9, c9, x, Bx, dx⟩) := rd_two kD
    have hsv := sv5_all (hru11.good.below hb14) (ho11.below hb14) (ho11.below hb14) (ho11.below hb14) (ho11.below hb14)
    have hru14 := hru11.below hb14
    have hrc14 := hrc11.below hb14
    have hrz14 := hrz11.below hb14
    obtain ⟨AD, hAD⟩ : ∃ AD, some (⟨W11.heap.size, 0, none⟩ : Addr) = AD := ⟨_, rfl⟩
    rw [hAD] at hRD ⊢
    obtain ⟨AZ, hAZ⟩ : ∃ AZ, some (⟨gz, 0, none⟩ : Addr) = AZ := ⟨_, rfl⟩
    rw [hAZ] at hrz14 ⊢
    generalize sv5 ⟨n, l, A9, c9, G, B9, d9⟩ ⟨n, l, A9, c9, x, Bx, dx⟩ ⟨n, l, A9, c9, x, Bx, dx⟩ ⟨n, l, A9, c9, x, Bx, dx⟩ ⟨n, l, A9, c9, x, Bx, dx⟩ = sv at *
    obtain ⟨zs, hzs, hzl⟩ : ∃ zs : List (Int × Int × Int), List.replicate z (0, 0, 0) = zs ∧ z = zs.length := ⟨_, rfl, by simp⟩
    rw [hzs] at hrz14
    subst hzl
    have HRD := Lib.hid hRD; have Hsv := Lib.hid hsv; have Hrc := Lib.hid hrc14; have Hrz := Lib.hid hrz14
    have Hraw := Lib.hid hru14.rc; have Hbl := Lib.hid hru14.bl
    clear hW14 hb14 kD hru11 ho11 hrc11 hrz11 hAD hAZ hRD hsv hru14 hrc14 hrz14 hzs a0 a1 a2 q0 q1 q2 kq
    go_wp2_with fail
    go_loopw [57] (fun s57 wr => ∃ j : Nat, j ≤ 2 ∧ s57 = .int .i64 j ∧ Below W14.heap.size W14 wr) (fun s57 _ => 2 - (intOf s57).toNat)
    case atStart => exact ⟨0, by omega, rfl, Below.refl _ _⟩
    case round =>
      obtain ⟨j, hj, rfl, hbj⟩ := hrel
      obtain ⟨wj, hwj⟩ : ∃ x, x = wr := ⟨_, rfl⟩
      subst hwj
      by_cases hj2 : j < 2
      case neg =>
        have hj2' : ¬ (j : Int) < 2 := by omega
        have hbb := endB Hbl.out hbj
        go_wp2_with fail
        refine (awake19_any wj (HT0.out.below hbb)).mono ?_
        rintro e w9 ⟨rfl, hb9⟩
        go_wp2_with fail
        go_ret
        exact ⟨rfl, endB hbb hb9⟩
      case pos =>
      have hj2' : (j : Int) < 2 := by omega
      have hj0 : (0 : Int) ≤ (j : Int) := by omega
      obtain ⟨b, o, rfl, h0, h1, h2⟩ := (HRD.out.below hbj) j hj2
      have hxs := (Hsv.out j).below hbj
      generalize sv j = xs at *
      obtain ⟨N5, l5, A5, c5, b5, B5, d5⟩ := xs
      simp only at h0 h1 h2
      go_upto_region 13 with fail
      obtain ⟨W15, hW15, kd15, hb15, _⟩ := boxed3 wj 27 (.int .i64 N5) (.slice A5 l5.length c5) (.slice B5 b5.length d5)
      rw [hW15]
      have hx15 := hxs.below hb15
      have hbj15 := endB hbj hb15
      obtain ⟨D, hD⟩ : ∃ D, wj.heap.size = D := ⟨_, rfl⟩
      rw [hD] at kd15 ⊢
      have Hx := Lib.hid hx15
      clear hW15 hxs hbj hb15 h0 h1 h2 hD hx15
      go_cut [68, 69, 70] (fun s68 s69 s70 wx => ∃ g2 ys, s68 = Value.slice (some ⟨g2, 0, none⟩) 4 4 ∧ s69 = Value.int .i64 4 ∧ s70 = Value.int .i64 0 ∧ RG wx (some ⟨g2, 0, none⟩) ys ∧ Below W15.heap.size W15 wx)
      case first =>
        have hraw := Hraw.out.below hbj15
        have hrc := Hrc.out.below hbj15
        have hrz := Hrz.out.below hbj15
        obtain ⟨m, hm⟩ : ∃ m : Nat, min raw.length 20 = m := ⟨_, rfl⟩
        have hmin : min (raw.length : Int) 20 = (m : Int) := by omega
        have hm1 : (m : Int) ≤ (raw.length : Int) := by omega
        have hm2 : (m : Int) ≤ (c0 : Int) := by omega
        have hm0 : (0 : Int) ≤ (m : Int) := by omega
        have hmt : (raw.take m).length = m := by rw [List.length_take]; omega
        have Hraw2 := Lib.hid (hraw.take m); have Hmt := Lib.hid hmt; have Hrc2 := Lib.hid hrc; have Hrz2 := Lib.hid hrz
        clear hraw hrc hrz hm hmt
        have Hfin : Hid (RG (W15.alloc (.cells #[.slice A0 m c0, .slice A8 cs.length c8, .slice AZ zs.length zs.length, .slice none 0 0] 40)) (some ⟨W15.heap.size, 0, none⟩) (ys4 ⟨raw.take m, A0, c0⟩ ⟨cs, A8, c8⟩ ⟨zs, AZ, zs.length⟩ ⟨[], none, 0⟩)) := Lib.hid (by
          have hb := newB W15 (.cells #[.slice A0 m c0, .slice A8 cs.length c8, .slice AZ zs.length zs.length, .slice none 0 0] 40)
          refine rg_four (t := 40) ?_ (Hraw2.out.below hb) (Hrc2.out.below hb) (Hrz2.out.below hb) (RC.nil _ _)
          simp only [Hmt.out]
          exact Blk.new _ _ _)
        clear Hmt Hraw2 Hrc2 Hrz2
        cases A0 with
        | none =>
          go_wp2_with fail
          go_meet
          exact ⟨_, _, rfl, rfl, rfl, Hfin.out, newB _ _⟩
        | some a =>
          go_wp2_with fail
          go_meet
          exact ⟨_, _, rfl, rfl, rfl, Hfin.out, newB _ _⟩
      obtain ⟨g2, ys, rfl, rfl, rfl, hRG, hbc⟩ := hcut
      obtain ⟨W16, hW16⟩ : ∃ W, W = wc := ⟨_, rfl⟩
      subst hW16
      obtain ⟨AC, hAC⟩ : ∃ AC, some (⟨g2, 0, none⟩ : Addr) = AC := ⟨_, rfl⟩
      rw [hAC] at hRG ⊢
      have kd16 := kd15.below hbc kd15.lt
      have Hx16 := Lib.hid (Hx.out.below hbc)
      have hbj16 := endB hbj15 hbc
      have HRG := Lib.hid hRG
      clear hAC hRG kd15 Hx hbj15 hbc
      go_wp2_with fail
      go_loopw [70] (fun s70 wi => ∃ i : Nat, i ≤ 4 ∧ s70 = .int .i64 i ∧ Below W16.heap.size W16 wi) (fun s70 _ => 4 - (intOf s70).toNat)
      case atStart => exact ⟨0, by omega, rfl, Below.refl _ _⟩
      case round =>
        obtain ⟨i, hi, rfl, hbi⟩ := hrel
        obtain ⟨wi, hwi⟩ : ∃ x, x = wr := ⟨_, rfl⟩
        subst hwi
        by_cases hi4 : i < 4
        case neg =>
          have hi4' : ¬ (i : Int) < 4 := by omega
          go_wp2_with fail
          go_roundw
          case rel => exact ⟨j + 1, by omega, by go_num, endB hbj16 hbi⟩
          case measure => simp [intOf]; omega
        case pos =>
        have hi4' : (i : Int) < 4 := by omega
        have hi0 : (0 : Int) ≤ (i : Int) := by omega
        obtain ⟨⟨b6, o6, rfl, h0⟩, hrcy⟩ := (HRG.out.below hbi) i hi4
        generalize ys i = y at *
        obtain ⟨yl, yA, yc⟩ := y
        simp only at h0 hrcy
        have kdi := kd16.below hbi kd16.lt
        have hxi := Hx16.out.below hbi
        have hbbi := endB Hbl.out (endB hbj16 hbi)
        obtain ⟨c0', c1', c2', _, _, _⟩ := kdi.threeF
        have hlen := rnR_len (N := N5) (lab := b5) (cs := yl) hxi.ll
        have hda := dRun_any A5 B5 N5 l5 b5 c5 d5 yA yl yc wi hxi.rp hxi.an hxi.ll hxi.ri hxi.bn hxi.bl hrcy (HT0.out.below hbbi)
        have hra := fun (W : World) (h : DSt p ⟨N5, l5, A5, c5, b5, B5, d5⟩ W) (h2 : RC W yA yl) => r19Run_any A5 B5 N5 l5 b5 c5 d5 yA yl yc W h.rp h.an h.ll h.ri h.bn h.bl h2
        obtain ⟨⟨n6, l6, m6, E6⟩, hR⟩ : ∃ r, rnR N5 l5 b5 yl = r := ⟨_, rfl⟩
        rw [hR] at hda hra hlen
        simp only at hda hra hlen
        obtain ⟨hn6, hl6⟩ := hlen
        have hG6 : (lst n6 (grL n6 l6)).length ≤ 100000 := by rw [lst_length]; omega
        generalize lst n6 (grL n6 l6) = G6 at *
        have hsm := fun (A B C D : Option Addr) (c1 c2 d1 d2 : Nat) (W : World) (h1 : RP W A l6) (h2 : RP W B l6) (h3 : RI W C G6) (h4 : RI W D G6) => same19_any A B C D n6 n6 l6 l6 G6 G6 c1 c2 d1 d2 W h1 h2 h3 h4 hl6 hl6 hG6 hG6
        rw [show sameD (n6 : Int) l6 G6 n6 l6 G6 = true by simp [sameD, sameB, eqB]] at hsm
        have Hda := Lib.hid hda; have Hra := Lib.hid hra; have Hsm := Lib.hid hsm
        have Hxi := Lib.hid hxi; have Hry := Lib.hid hrcy
        have hE6 : (E6 != E6) = false := by simp
        have hm6 : ((m6 : Int) != (m6 : Int)) = false := by simp
        clear hbbi hda hra hsm hR hxi hrcy
        go_wp2_with fail
        refine Hda.out.mono ?_
        rintro e w19 ⟨A19, c19, B19, d19, rfl, hV19, hb19⟩
        have kd19 := kdi.below hb19 kdi.lt
        have hx19 := Hxi.out.below hb19
        have hr19 := Hry.out.below hb19
        have hbi19 := endB hbi hb19
        clear Hda kdi Hxi Hry hbi c0' c1' c2' hb19 h0
        go_upto_region 17 with fail
        obtain ⟨W20, hW20, ka20, hb20, _⟩ := boxed3 w19 27 (.int .i64 (n6 : Int)) (.slice A19 l6.length c19) (.slice B19 G6.length d19)
        rw [hW20]
        have kd20 := kd19.below hb20 kd19.lt
        have hx20 := hx19.below hb20
        have hr20 := hr19.below hb20
        have hbi20 := endB hbi19 hb20
        have hV20 := hV19.below hb20
        obtain ⟨c0', c1', c2', _, _, _⟩ := kd20.threeF
        have Hr := Lib.hid (Hra.out W20 hx20 hr20)
        clear hW20 kd19 hx19 hr19 hbi19 hV19 hb20 Hra hr20 hx20
        go_wp2_with fail
        refine Hr.out.mono ?_
        rintro e w21 ⟨A21, c21, B21, d21, rfl, hV21, hb21⟩
        have ka21 := ka20.below hb21 ka20.lt
        have hbi21 := endB hbi20 hb21
        have hV20' := hV20.below hb21
        clear Hr kd20 hbi20 hV20 ka20 c0' c1' c2' hb21
        go_upto_region 18 with fail
        obtain ⟨W22, hW22, kb22, hb22, _⟩ := boxed3 w21 27 (.int .i64 (n6 : Int)) (.slice A21 l6.length c21) (.slice B21 G6.length d21)
        rw [hW22]
        have ka22 := ka21.below hb22 ka21.lt
        have hbi22 := endB hbi21 hb22
        have hVa := hV20'.below hb22
        have hVb := hV21.below hb22
        obtain ⟨c0', c1', c2', _, _, _⟩ := ka22.threeF
        obtain ⟨d0', d1', d2', _, _, _⟩ := kb22.threeF
        clear hW22 hbi21 hV20' hV21 ka21 hb22
        go_wp2_with fail
        refine (Hsm.out _ _ _ _ _ _ _ _ W22 hVa.rp hVb.rp hVa.ri hVb.ri).mono ?_
        rintro e w23 ⟨rfl, hb23⟩
        have hbi23 := endB hbi22 hb23
        clear ka22 kb22 hVa hVb hb23 hbi22 c0' c1' c2' d0' d1' d2' Hsm
        go_wp2_with fail
        go_roundw
        case rel => exact ⟨i + 1, by omega, by go_num, hbi23⟩
        case measure => simp [intOf]; omega
end Go.Proofs.YtkflanjlnbdkmaaGreatDoor
