/- The walk of the statement GroundedProves. -/
import Derived.Test.YtiljbfeipfdmdaaDoorGk
import Derived.Test.YtiljbfeipfdmdaaDoorLc
import Derived.Test.YtiljbfeipfdmdaaDoorGenM
namespace Go.Proofs.YtiljbfeipfdmdaaDoor
open Go.ChangeShapes Go.WideShapes Go.ChangeAt Go.RowKit

theorem GSt.set {w : World} {p G n : Nat} {l : List (Int × Int)} {AL : Option Addr} {cl : Nat} {wr : World} {g k : Nat} (h : GSt w p G n l AL cl wr) (hg : G < g) (u : Value) : GSt w p G n l AL cl (wr.setCell ⟨g, k, none⟩ u) := by
  have hpG := h.hpG
  have hp := h.hp
  refine ⟨?_, ?_, fun i hi => ?_, h.src.other (grownBy_setCell wr g k u) (fun j hj => by injection hj with hj; omega), h.hb.setCell (p := ⟨g, k, none⟩) (by show w.heap.size ≤ g; omega) u, h.hp, h.hpG, h.hA, h.hAG⟩
  · rw [World.cell?_setCell_other _ _ _ _ (fun e => by injection e; omega)]; exact h.c0
  · rw [World.cell?_setCell_other _ _ _ _ (fun e => by injection e; omega)]; exact h.c1
  · obtain ⟨b, o, hA, hc, hd⟩ := h.rp i hi
    have := h.hAG b o hA (fun e => by subst e; simp at hi)
    exact ⟨b, o, hA, by rw [World.cell?_setCell_other _ _ _ _ (fun e => by injection e; omega)]; exact hc, by rw [World.cell?_setCell_other _ _ _ _ (fun e => by injection e; omega)]; exact hd⟩

/-- the state of the loop that fills a row: the graph, the reader, two own lists, the row -/
structure FilSt (w : World) (p G n : Nat) (l : List (Int × Int)) (AL : Option Addr) (cl : Nat) (g B0 : Nat) (vx vy : Value) (x y : List Int) (f : Nat → Int) (wr : World) : Prop where
  st : GSt w p G n l AL cl wr
  row : Row wr g n f
  ox : OwnI wr B0 vx x
  oy : OwnI wr B0 vy y
  nx : vx.ownBlock ≠ some g
  ny : vy.ownBlock ≠ some g
  hpB : p < B0
  hGg : G < g
theorem FilSt.read {w : World} {p G n : Nat} {l : List (Int × Int)} {AL : Option Addr} {cl g B0 : Nat} {vx vy : Value} {x y : List Int} {f : Nat → Int} {wr w' : World} (h : FilSt w p G n l AL cl g B0 vx vy x y f wr) (hs : SrcOk w' p) (hg : wr.grownBy w' (some p)) : FilSt w p G n l AL cl g B0 vx vy x y f w' :=
  ⟨h.st.grown hs hg, rowIs_grown h.row hg (fun e => by injection e with e; have := h.st.hpG; have := h.hGg; omega), ownsRow_far h.ox hg h.hpB, ownsRow_far h.oy hg h.hpB, h.nx, h.ny, h.hpB, h.hGg⟩
theorem FilSt.put {w : World} {p G n : Nat} {l : List (Int × Int)} {AL : Option Addr} {cl g B0 : Nat} {vx vy : Value} {x y : List Int} {f : Nat → Int} {wr : World} (h : FilSt w p G n l AL cl g B0 vx vy x y f wr) (k : Nat) (u : Int) : FilSt w p G n l AL cl g B0 vx vy x y (upd f k u) (wr.setCell ⟨g, k, none⟩ (.int .i64 u)) :=
  ⟨h.st.set h.hGg _, h.row.set k u, h.ox.far (a := ⟨g, k, none⟩) h.nx _, h.oy.far (a := ⟨g, k, none⟩) h.ny _, h.nx, h.ny, h.hpB, h.hGg⟩

set_option maxRecDepth 100000 in
set_option maxHeartbeats 8000000 in
theorem proves_law_any (A : Option Addr) (arg : List Int) (c : Nat) (Z : Option Addr) (set : List Int) (zc : Nat) (w : World)
    (hlc : arg.length ≤ c) (hc : c ≤ 9223372036854775807) (hr : RI w A arg) (hx : ∀ x ∈ arg, -9223372036854775808 ≤ x ∧ x ≤ 9223372036854775807) (hzl : set.length ≤ 9223372036854775807) (hset : RI w Z set) (_hzn : Z = none → set = [] ∧ zc = 0) (hT : Tab w) :
    Calls Tryd.prog 13 #[.slice A arg.length c, .slice Z set.length zc] w (RetB (.bool true) w) := by
  go_enter Tryd.func13, Tryd.ntmps13
  go_wp2_with fail
  refine (new_any A arg c w hlc hc hr hx).mono ?_
  rintro e w1 ⟨p, rfl, hp, hs1, hb1⟩
  have hp1 := hs1.lt
  clear hr hx
  go_wp2_with fail
  refine (graph_any p 5 w1 hs1 (by omega)).mono ?_
  rintro e w2 ⟨n, l, AL, cl, rfl, hN, hv, hrp, hloc, hs2, hg2⟩
  have hb2 : Below w.heap.size w w2 := hb1.trans (below_of_grownBy hg2 hp hb1.size)
  clear hs1 hb1 hg2
  go_wp2_with fail
  obtain ⟨W0, hW, c0, c1, hb0, hlt0⟩ := boxed w2 27 (.int .i64 n) (.slice AL l.length cl)
  rw [hW]
  clear hW
  have hst := GSt.start hp hp1 hb2 hs2 hrp hloc hb0 c0 c1
  have hn40 := hv.1.1; have hlen := hv.1.2.1
  have hn5 : n ≤ 5 := by omega
  have HV := Lib.hid hv
  clear hs2 hrp hloc hb0 c0 c1 hb2 hp1 hv
  generalize w2.heap.size = G at *
  have hpW : p < W0.heap.size := hst.src.lt
  have hlx := lst_length n (grL n l)
  have hly := lst_length n (grR n l)
  have hchk := gr_proved HV.out.1
  have hne : ∀ z r, eqB (lst n (grL n l)) z = false → chkE n l z r ≠ 0 := fun z r h => by rw [chkE_nat HV.out]; exact proved_ne HV.out.1 h
  rw [← chkE_nat HV.out] at hchk
  have HLab := fun W (h1 : RP W AL l) (h2 : Tab W) => gLabel_any AL n l cl W h1 HV.out h2
  have HRan := fun W (h1 : RP W AL l) (h2 : Tab W) => gRanks_any AL n l cl W h1 HV.out h2
  generalize lst n (grL n l) = x at *
  generalize lst n (grR n l) = y at *
  have Hne := Lib.hid hne; have Hchk := Lib.hid hchk; have Hlx := Lib.hid hlx; have Hly := Lib.hid hly
  have hx5 : x.length ≤ 5 := by omega
  have hy5 : y.length ≤ 5 := by omega
  clear hne hchk hlx hly
  refine wp_region_textB [1, 3] (fun w' => GSt w p G n l AL cl w' ∧ W0.heap.size ≤ w'.heap.size) (fun _ => True) (by kernel_rfl) (by kernel_rfl) (by kernel_rfl) ⟨hst.below (Below.refl _ _).drew, Nat.le_refl _⟩ trivial ?_
  repeat (first
    | (refine TxtBL.skip (by rfl) ?_; simp only [Act.put, List.setIfInBounds_toArray, List.set_cons_zero, List.set_cons_succ])
    | (refine TxtBL.take (by rfl) (by rfl) ?_; apply Exists.intro; refine ⟨fun w1 hS1 => ?_, ?_⟩; (focus ((have g0 := hS1.1.c0); (have g1 := hS1.1.c1); go_simp; with_reducible rfl)); simp only [Act.put, List.setIfInBounds_toArray, List.set_cons_zero, List.set_cons_succ])
    | (refine TxtBL.takeE (by rfl) (by rfl) ?_; apply Exists.intro; refine ⟨fun w1 hS1 => ?_, ?_⟩; (focus ((have g0 := hS1.1.c0); (have g1 := hS1.1.c1); go_simp; with_reducible rfl)); simp only [Act.put, List.setIfInBounds_toArray, List.set_cons_zero, List.set_cons_succ]))
  refine TxtBL.call (f := 41) (args := #[.agg #[.int .i64 n, .slice AL l.length cl]]) (fun v => ∃ A c, v = Value.slice A x.length c) (fun v w' => OwnI w' W0.heap.size v x) (by rfl) (by rfl) ⟨_, none, 0, rfl⟩ (fun w1 hS1 hJ1 => by go_simp) (fun w1 hS1 hJ1 => ?_) ?_
  · refine (HLab w1 hS1.1.rp (hT.below hS1.1.hb)).mono ?_
    rintro e w' ⟨A', c', rfl, ho, _, _, hb⟩
    exact ⟨_, rfl, ⟨hS1.1.below hb, Nat.le_trans hS1.2 hb.size⟩, ⟨A', c', rfl⟩, OwnI.mono ho hS1.2⟩
  rintro v18 ⟨A18, c18, rfl⟩
  simp only [Act.put, List.setIfInBounds_toArray, List.set_cons_zero, List.set_cons_succ]
  repeat (first
    | (refine TxtBL.skip (by rfl) ?_; simp only [Act.put, List.setIfInBounds_toArray, List.set_cons_zero, List.set_cons_succ])
    | (refine TxtBL.take (by rfl) (by rfl) ?_; apply Exists.intro; refine ⟨fun w1 hS1 => ?_, ?_⟩; (focus ((have g0 := hS1.1.c0); (have g1 := hS1.1.c1); go_simp; with_reducible rfl)); simp only [Act.put, List.setIfInBounds_toArray, List.set_cons_zero, List.set_cons_succ])
    | (refine TxtBL.takeE (by rfl) (by rfl) ?_; apply Exists.intro; refine ⟨fun w1 hS1 => ?_, ?_⟩; (focus ((have g0 := hS1.1.c0); (have g1 := hS1.1.c1); go_simp; with_reducible rfl)); simp only [Act.put, List.setIfInBounds_toArray, List.set_cons_zero, List.set_cons_succ]))
  refine TxtBL.call (f := 51) (args := #[.agg #[.int .i64 n, .slice AL l.length cl]]) (fun v => ∃ A c, v = Value.slice A y.length c) (fun v w' => OwnI w' W0.heap.size (.slice A18 x.length c18) x ∧ OwnI w' W0.heap.size v y) (by rfl) (by rfl) ⟨_, none, 0, rfl⟩ (fun w1 hS1 hJ1 => by go_simp) (fun w1 hS1 hJ1 => ?_) ?_
  · refine (HRan w1 hS1.1.rp (hT.below hS1.1.hb)).mono ?_
    rintro e w' ⟨A', c', rfl, ho, _, _, hb⟩
    exact ⟨_, rfl, ⟨hS1.1.below hb, Nat.le_trans hS1.2 hb.size⟩, ⟨A', c', rfl⟩, OwnI.below hJ1 hb, OwnI.mono ho hS1.2⟩
  rintro v20 ⟨A20, c20, rfl⟩
  simp only [Act.put, List.setIfInBounds_toArray, List.set_cons_zero, List.set_cons_succ]
  repeat (first
    | (refine TxtBL.skip (by rfl) ?_; simp only [Act.put, List.setIfInBounds_toArray, List.set_cons_zero, List.set_cons_succ])
    | (refine TxtBL.take (by rfl) (by rfl) ?_; apply Exists.intro; refine ⟨fun w1 hS1 => ?_, ?_⟩; (focus (skip; go_simp; with_reducible rfl)); simp only [Act.put, List.setIfInBounds_toArray, List.set_cons_zero, List.set_cons_succ])
    | (refine TxtBL.takeE (by rfl) (by rfl) ?_; apply Exists.intro; refine ⟨fun w1 hS1 => ?_, ?_⟩; (focus (skip; go_simp; with_reducible rfl)); simp only [Act.put, List.setIfInBounds_toArray, List.set_cons_zero, List.set_cons_succ]))
  refine TxtBL.nil (fun W1 hS hJ => ?_)
  obtain ⟨hst1, hW01⟩ := hS
  obtain ⟨hox1, hoy1⟩ := hJ
  clear hst HLab HRan
  obtain ⟨d0, d1⟩ : _ ∧ _ := ⟨hst1.c0, hst1.c1⟩
  have H9 := gCheck_any AL n l cl A18 x c18 A20 y c20 W1 hst1.rp hlen hox1.ri (by omega) hoy1.ri (by omega) (hT.below hst1.hb)
  rw [Hchk.out] at H9
  go_wp2_with fail
  refine H9.mono ?_
  clear H9
  rintro e W2 ⟨rfl, hb2⟩
  have hst2 := hst1.below hb2
  have hox2 := OwnI.below hox1 hb2
  have hoy2 := OwnI.below hoy1 hb2
  clear hst1 hox1 hoy1 hb2 d0 d1 hW01
  obtain ⟨d0, d1⟩ : _ ∧ _ := ⟨hst2.c0, hst2.c1⟩
  have hGW : G < W2.heap.size := lt_of_cell d0
  have hmk := run_make_row' (P := Tryd.prog) 22 3 (.int .i64 0) 8 Tryd.underlying22 info_int rfl .i64 .i64 n (by omega) (by omega)
  go_wp2_with fail
  clear hmk
  have hfil : FilSt w p G n l AL cl W2.heap.size W0.heap.size (.slice A18 x.length c18) (.slice A20 y.length c20) x y (fun _ => 0) (W2.alloc (.cells (madeCells #[.int .i64 0] n) 3)) :=
    ⟨hst2.below (newB _ _), World.rowIs_made _ _ _ _, OwnI.below hox2 (newB _ _), OwnI.below hoy2 (newB _ _), (fun e => by have := (World.ownsRow.lt hox2 _ e).2; omega), (fun e => by have := (World.ownsRow.lt hoy2 _ e).2; omega), hpW, hGW⟩
  clear hst2 hox2 hoy2 d0 d1
  generalize W2.alloc (.cells (madeCells #[.int .i64 0] n) 3) = W3 at *
  generalize W2.heap.size = g at *
  go_loopw [31] (fun i wr => ∃ (k : Nat) (f : Nat → Int), k ≤ n ∧ i = .int .i64 k ∧ FilSt w p G n l AL cl g W0.heap.size (.slice A18 x.length c18) (.slice A20 y.length c20) x y f wr) (fun i _ => n - (intOf i).toNat)
  case atStart => exact ⟨0, _, Nat.zero_le _, rfl, hfil⟩
  case round =>
    clear hfil
    obtain ⟨k, f, hk, rfl, hfil⟩ := hrel
    by_cases hkn : k < n
    case pos =>
      have hkn' : (k : Int) < (n : Int) := by omega
      have hfz := hfil.row.frozen k
      have hck := hfil.row.cell hkn
      by_cases hks : k < set.length
      case' pos =>
        have hks' : (k : Int) < (set.length : Int) := by omega
        obtain ⟨bz, oz, rfl, hcz⟩ := (hset.below hfil.st.hb).at_ hks
        have hfil2 := hfil.put k set[k]
        go_upto_region 12 with fail
        generalize wr.setCell ⟨g, k, none⟩ (.int .i64 set[k]) = wq at *
        generalize upd f k set[k] = f2 at *
        clear hcz hfil hfz hck
      case' neg =>
        have hks' : ¬ (k : Int) < (set.length : Int) := by omega
        have hfil2 := hfil
        go_upto_region 12 with fail
        clear hfil hfz hck
        generalize wr = wq at *
        generalize f = f2 at *
      all_goals
        go_wp2_with fail
        refine (n_any p 2 wq hfil2.st.src (by omega) (by omega)).mono ?_
        rintro e w8 ⟨d, rfl, hd1, hd2, hs8, hg8⟩
        have hfil8 := hfil2.read hs8 hg8
        clear hfil2 hs8 hg8
        by_cases hd0 : d = 0
        · have hdb : (d == 0) = true := by simp [hd0]
          have Hd0 := Lib.hid hd0; clear hd0
          go_wp2_with fail
          refine (n_any p 5 w8 hfil8.st.src (by omega) (by omega)).mono ?_
          rintro e w9 ⟨d2, rfl, hd3, hd4, hs9, hg9⟩
          have hfil9 := hfil8.read hs9 hg9
          clear hfil8 hs9 hg9
          have hfz := hfil9.row.frozen k
          have hck := hfil9.row.cell hkn
          go_wp2_with fail
          go_roundw
          case rel => exact ⟨k + 1, _, by omega, by go_num, hfil9.put k d2⟩
          case measure => simp [intOf]; omega
        · have hdb : (d == 0) = false := by simp [hd0]
          have Hd0 := Lib.hid hd0; clear hd0
          go_wp2_with fail
          go_roundw
          case rel => exact ⟨k + 1, _, by omega, by go_num, hfil8⟩
          case measure => simp [intOf]; omega
    case neg =>
    obtain rfl : k = n := by omega
    have hrl := lst_length k f
    have hrf : RI wr (some ⟨g, 0, none⟩) (lst k f) := hfil.row.ri
    generalize lst k f = r at *
    have hrx := hfil.ox.ri
    have hry := hfil.oy.ri
    obtain ⟨d0, d1⟩ : _ ∧ _ := ⟨hfil.st.c0, hfil.st.c1⟩
    have hB3 := hfil.st.hb
    have hrp := hfil.st.rp
    have Hrl := Lib.hid hrl
    have hr5 : r.length ≤ 5 := by omega
    obtain ⟨W4, hW4⟩ : ∃ W4, W4 = wr := ⟨_, rfl⟩
    subst hW4
    clear hfil hrl
    go_wp2_with fail
    refine (r11Labellings_any k W4 (by omega)).mono ?_
    rintro e B ⟨AS, cS, rfl, hrs, hbB⟩
    have e0 := (hbB.cell (lt_of_cell d0)).trans d0
    have e1 := (hbB.cell (lt_of_cell d1)).trans d1
    have hrB := hrp.below hbB
    have hrxB := hrx.below hbB
    have hryB := hry.below hbB
    have hrfB := hrf.below hbB
    have hBw := endB hB3 hbB
    have hTB := hT.below hBw
    have hLS := labs_small (n := k) (by omega)
    have hlab : ∀ q (h : q < (labsL k).length), labB k (labsL k)[q] = true := fun q h => (mem_labs k _).1 (List.getElem_mem h)
    have Hlab := Lib.hid hlab
    clear hlab hbB hT hB3 hrp hrx hry hrf d0 d1 hset
    generalize labsL k = LS at *
    go_wp2_with fail
    go_loopw [58] (fun i wr => ∃ q : Nat, q ≤ LS.length ∧ i = .int .i64 q ∧ Below B.heap.size B wr) (fun i _ => LS.length - (intOf i).toNat)
    case atStart => exact ⟨0, Nat.zero_le _, rfl, Below.refl _ _⟩
    case round =>
      obtain ⟨q, hq, rfl, hbl⟩ := hrel
      by_cases hlt : q < LS.length
      case neg =>
        go_wp2_with fail
        refine (awake12_any wr (hTB.below hbl)).mono ?_
        rintro e w9 ⟨rfl, hb9⟩
        go_wp2_with fail
        go_ret
        exact ⟨rfl, hBw.trans ((endB hbl hb9).mono hBw.size)⟩
      case pos =>
      have hlt' : (q : Int) < (LS.length : Int) := by omega
      have hlz := Hlab.out q hlt
      obtain ⟨b, o, AZ, cz, hA, hcell, _, hri⟩ := hrs.below hbl q hlt
      subst hA
      generalize LS[q] = z at *
      have hzl := (labB_iff.1 hlz).1
      have hz5 : z.length ≤ 5 := by omega
      obtain ⟨W5, hW5⟩ : ∃ W5, W5 = wr := ⟨_, rfl⟩
      subst hW5
      have H9 := ints_any A18 AZ x z c18 cz W5 (by omega) (by omega) (hrxB.below hbl) hri
      clear hlz hzl
      cases hxz : eqB x z
      case true =>
        rw [hxz] at H9
        clear hxz
        go_wp2_with fail
        refine H9.mono ?_
        clear H9
        rintro e W6 hh
        obtain ⟨rfl, hb6⟩ := hh.below
        clear hh
        have hbl6 := endB hbl hb6
        go_wp2_with fail
        go_roundw
        case rel => exact ⟨q + 1, by omega, by go_num, hbl6⟩
        case measure => simp [intOf]; omega
      case false =>
      rw [hxz] at H9
      have n1 := Hne.out z r hxz
      have n2 := Hne.out z y hxz
      have C1 : ∀ W, Below W5.heap.size W5 W → Calls Tryd.prog 49 #[.agg #[.int .i64 (k : Int), .slice AL l.length cl], .slice AZ z.length cz, .slice (some ⟨g, 0, none⟩) k k] W (RetB (.int .i64 (chkE k l z r)) W) := fun W hb => by
        have := gCheck_any AL k l cl AZ z cz (some ⟨g, 0, none⟩) r k W (hrB.below (endB hbl hb)) hlen (hri.below hb) (by omega) (hrfB.below (endB hbl hb)) (by omega) (hTB.below (endB hbl hb))
        rw [Hrl.out] at this
        exact this
      have C2 : ∀ W, Below W5.heap.size W5 W → Calls Tryd.prog 49 #[.agg #[.int .i64 (k : Int), .slice AL l.length cl], .slice AZ z.length cz, .slice A20 y.length c20] W (RetB (.int .i64 (chkE k l z y)) W) := fun W hb =>
        gCheck_any AL k l cl AZ z cz A20 y c20 W (hrB.below (endB hbl hb)) hlen (hri.below hb) (by omega) (hryB.below (endB hbl hb)) (by omega) (hTB.below (endB hbl hb))
      generalize chkE k l z r = u1 at *
      generalize chkE k l z y = u2 at *
      have b1 : (u1 == 0) = false := by simpa using n1
      have b2 : (u2 == 0) = false := by simpa using n2
      have HC1 := Lib.hid C1; have HC2 := Lib.hid C2
      clear hxz n1 n2 C1 C2
      have d0 := (hbl.cell (lt_of_cell e0)).trans e0
      have d1 := (hbl.cell (lt_of_cell e1)).trans e1
      go_wp2_with fail
      refine H9.mono ?_
      clear H9
      rintro e W6 hh
      obtain ⟨rfl, hb6⟩ := hh.below
      clear hh
      have f0 := (hb6.cell (lt_of_cell d0)).trans d0
      have f1 := (hb6.cell (lt_of_cell d1)).trans d1
      go_wp2_with fail
      refine (HC1.out W6 hb6).mono ?_
      rintro e W7 ⟨rfl, hb7⟩
      have hb7' := endB hb6 hb7
      have g0 := (hb7.cell (lt_of_cell f0)).trans f0
      have g1 := (hb7.cell (lt_of_cell f1)).trans f1
      clear f0 f1 d0 d1
      go_wp2_with fail
      refine (HC2.out W7 hb7').mono ?_
      rintro e W8 ⟨rfl, hb8⟩
      have hbl8 := endB hbl (endB hb7' hb8)
      clear g0 g1
      go_wp2_with fail
      go_roundw
      case rel => exact ⟨q + 1, by omega, by go_num, hbl8⟩
      case measure => simp [intOf]; omega
end Go.Proofs.YtiljbfeipfdmdaaDoor
