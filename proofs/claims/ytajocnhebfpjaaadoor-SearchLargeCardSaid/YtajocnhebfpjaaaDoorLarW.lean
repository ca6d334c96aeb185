/- law14: the walk of SearchLarge. -/
import Derived.Test.YtajocnhebfpjaaaDoorInsW
import Derived.Test.YtajocnhebfpjaaaDoorLc
namespace Go.Proofs.YtajocnhebfpjaaaDoor
open Go.ChangeShapes Go.WideShapes Go.ChangeAt Go.RowKit

set_option maxRecDepth 100000 in
set_option maxHeartbeats 16000000 in
theorem large_law_any (A : Option Addr) (arg : List Int) (c : Nat) (w : World)
    (hlc : arg.length ≤ c) (hc : c ≤ 9223372036854775807) (hr : RI w A arg) (hx : ∀ x ∈ arg, -9223372036854775808 ≤ x ∧ x ≤ 9223372036854775807) (hT : Tab w) :
    Calls Tryd.prog 7 #[.slice A arg.length c] w (RetB (.bool true) w) := by
  go_enter Tryd.func7, Tryd.ntmps7
  go_wp2_with fail
  refine (new_any A arg c w hlc hc hr hx).mono ?_
  rintro e w1 ⟨p, rfl, hp, hs1, hb1⟩
  have hp1 := hs1.lt
  clear hr hx
  go_wp2_with fail
  refine (graph_any p 14 w1 hs1 (by omega)).mono ?_
  rintro e w2 ⟨n, l, AL, cl, rfl, hN, hv, hrp, hloc, hs2, hg2⟩
  have hb2 : Below w.heap.size w w2 := hb1.trans (below_of_grownBy hg2 hp hb1.size)
  clear hs1 hb1 hg2
  go_wp2_with fail
  obtain ⟨W0, hW, c0, c1, hb0, hlt0⟩ := boxed w2 24 (.int .i64 n) (.slice AL l.length cl)
  rw [hW]
  clear hW
  have hst := GSt.start hp hp1 hb2 hs2 hrp hloc hb0 c0 c1
  have hn40 := hv.1.1; have hlen := hv.1.2.1
  have HV := Lib.hid hv
  have hgl : nGl n l = l := by unfold nGl; rw [hv.valE]; rfl
  have Hgl := Lib.hid hgl
  clear hs2 hrp hloc hb0 c0 c1 hb2 hp1 hv hgl
  generalize w2.heap.size = G at *
  obtain ⟨c0, c1⟩ : _ ∧ _ := ⟨hst.c0, hst.c1⟩
  have hB0 := hst.hb
  have hrp := hst.rp
  obtain ⟨CR, hCR⟩ : ∃ r, compR n l = r := ⟨_, rfl⟩
  obtain ⟨NR, hNR⟩ : ∃ r, navR n l = r := ⟨_, rfl⟩
  have hco := compR_good HV.out
  have hno := navR_good HV.out
  rw [hCR] at hco
  rw [hNR] at hno
  have hcc := complete_any AL (n : Int) l cl W0 hrp hlen (hT.below hB0)
  rw [hCR] at hcc
  have Hcc := Lib.hid hcc; have Hco := Lib.hid hco; have Hno := Lib.hid hno; have HNR := Lib.hid hNR
  clear hco hno hcc hCR hNR hst
  refine Hcc.out.mono ?_
  rintro e w3 ⟨A3, c3, rfl, hr3, _, hb3⟩
  have hB3 := endB hB0 hb3
  have d0 := (hb3.cell (lt_of_cell c0)).trans c0
  have d1 := (hb3.cell (lt_of_cell c1)).trans c1
  have hrp3 := hrp.below hb3
  have hnn := naive_any AL (n : Int) l cl w3 hrp3 hlen (hT.below hB3)
  rw [HNR.out] at hnn
  have Hnn := Lib.hid hnn; have Hr3 := Lib.hid hr3
  clear hnn hr3 Hcc c0 c1 hrp
  go_wp2_with fail
  refine Hnn.out.mono ?_
  rintro e w4 ⟨A4, c4, rfl, hr4, _, hb4⟩
  have hB4 := endB hB3 hb4
  have e0 := (hb4.cell (lt_of_cell d0)).trans d0
  have e1 := (hb4.cell (lt_of_cell d1)).trans d1
  have hrp4 := hrp3.below hb4
  have hT4 := hT.below hB4
  have Hr34 := Lib.hid (Hr3.out.below hb4); have Hr4 := Lib.hid hr4
  clear hr4 Hnn Hr3 d0 d1 hrp3
  have hle1 := Hco.out.le; have hle2 := Hno.out.le
  go_upto_region 5 with fail
  go_cut [6, 8, 69] (fun s6 s8 s69 wx => (∃ a, s6 = .int .i64 a) ∧ (∃ b, s8 = .int .i64 b) ∧ s69 = .bool false ∧ wx = w4)
  case first =>
    have q1 : ¬ (200 : Int) < (CR.1.length : Int) := by omega
    have q2 : ¬ (200 : Int) < (NR.1.length : Int) := by omega
    have q3 : decide ((200 : Int) < (CR.1.length : Int)) = false := by rw [decide_eq_false_iff_not]; exact q1
    have q4 : decide ((200 : Int) < (NR.1.length : Int)) = false := by rw [decide_eq_false_iff_not]; exact q2
    rcases Hco.out.e with h1 | h1 <;> rcases Hno.out.e with h2 | h2
    · have p1 := Hco.out.pos h1; have p2 := Hno.out.pos h2
      have z1 : ((CR.1.length : Int) == 0) = false := by rw [beq_eq_false_iff_ne]; omega
      have z2 : ((NR.1.length : Int) == 0) = false := by rw [beq_eq_false_iff_ne]; omega
      rw [h1, h2]
      clear h1 h2 p1 p2
      go_wp2_with fail
      go_meet
      exact ⟨⟨_, rfl⟩, ⟨_, rfl⟩, rfl, rfl⟩
    · have p1 := Hco.out.pos h1
      have z1 : ((CR.1.length : Int) == 0) = false := by rw [beq_eq_false_iff_ne]; omega
      rw [h1, h2]
      clear h1 h2 p1
      go_wp2_with fail
      go_meet
      exact ⟨⟨_, rfl⟩, ⟨_, rfl⟩, rfl, rfl⟩
    · have p2 := Hno.out.pos h2
      have z2 : ((NR.1.length : Int) == 0) = false := by rw [beq_eq_false_iff_ne]; omega
      rw [h1, h2]
      clear h1 h2 p2
      go_wp2_with fail
      go_meet
      exact ⟨⟨_, rfl⟩, ⟨_, rfl⟩, rfl, rfl⟩
    · rw [h1, h2]
      clear h1 h2
      go_wp2_with fail
      go_meet
      exact ⟨⟨_, rfl⟩, ⟨_, rfl⟩, rfl, rfl⟩
  obtain ⟨⟨a6, rfl⟩, ⟨a8, rfl⟩, rfl, hwc⟩ := hcut
  subst hwc
  generalize hCL : CR.1 = LS at *
  have hcom : ∀ k (h : k < LS.length), comB n l LS[k] = true := by subst hCL; exact Hco.out.com
  have hcmp : ∀ k (h : k + 1 < LS.length), cmpLs LS[k] LS[k + 1] = -1 := by subst hCL; exact Hco.out.cmp
  have hlns : ∀ k (h : k < LS.length), LS[k].length ≤ 100 := by subst hCL; exact Hco.out.len
  generalize hNL : NR.1 = NS at *
  have hcf : ∀ k (h : k < NS.length), cfR n l NS[k] = true := by subst hNL; exact Hno.out.cf
  have hncmp : ∀ k (h : k + 1 < NS.length), cmpLs NS[k] NS[k + 1] = -1 := by subst hNL; exact Hno.out.cmp
  have hnln : ∀ k (h : k < NS.length), NS[k].length ≤ 100 := by subst hNL; exact Hno.out.len
  have hmost : ∀ k (h : k < NS.length), ∀ i : Nat, i < n → inB NS[k] (i : Int) = false → cfR n l (insL NS[k] (i : Int)) = false := by subst hNL; exact Hno.out.most
  have Hcom := Lib.hid hcom; have Hcmp := Lib.hid hcmp; have Hlns := Lib.hid hlns; have Hcf := Lib.hid hcf; have Hncmp := Lib.hid hncmp; have Hnln := Lib.hid hnln; have Hmost := Lib.hid hmost
  clear hcom hcmp hlns hcf hncmp hnln hmost Hco Hno HNR hCL hNL
  go_wp2_with fail
  go_loopw [72] (fun j wr => ∃ k : Nat, k ≤ LS.length ∧ j = .int .i64 k ∧ Below wc.heap.size wc wr) (fun j _ => LS.length - (intOf j).toNat)
  case atStart => exact ⟨0, Nat.zero_le _, rfl, Below.refl _ _⟩
  case round =>
    obtain ⟨k, hk, rfl, hbl⟩ := hrel
    have f0 := (hbl.cell (lt_of_cell e0)).trans e0
    have f1 := (hbl.cell (lt_of_cell e1)).trans e1
    have hBl := endB hB4 hbl
    by_cases hkl : k < LS.length
    case pos =>
      have hkl' : (k : Int) < (LS.length : Int) := by omega
      have hk0' : (0 : Int) ≤ (k : Int) := by omega
      obtain ⟨b, o, AY, cy, hA, hcell, _, hriy⟩ := Hr34.out.below hbl k hkl
      subst hA
      have hcy := Hcom.out k hkl
      have hly := Hlns.out k hkl
      have hic := lIsComplete_any AL n l cl AY LS[k] cy wr (hrp4.below hbl) HV.out hriy (by omega) (hT4.below hbl)
      rw [hcy] at hic
      have Hic := Lib.hid hic
      clear hic hcy
      cases k with
      | zero =>
        obtain ⟨y, hy⟩ : ∃ y, LS[0] = y := ⟨_, rfl⟩
        rw [hy] at hcell hriy hly Hic
        clear hy
        have hcell' : wr.cell? ⟨b, o, none⟩ = some (.slice AY y.length cy) := hcell
        go_wp2_with fail
        refine Hic.out.mono ?_
        rintro e w5 ⟨rfl, hb5⟩
        go_wp2_with fail
        go_roundw
        case rel => exact ⟨1, by omega, by go_num, endB hbl hb5⟩
        case measure => simp [intOf]; omega
      | succ k =>
        have hk2 : k < LS.length := by omega
        obtain ⟨b', o', AX, cx, hA', hcellx, _, hrix⟩ := Hr34.out.below hbl k hk2
        injection hA' with hA'
        injection hA' with hA1 hA2 _
        subst hA1 hA2
        have hcx := Hcmp.out k hkl
        have hlx := Hlns.out k hk2
        obtain ⟨y, hy⟩ : ∃ y, LS[k + 1] = y := ⟨_, rfl⟩
        obtain ⟨x, hx⟩ : ∃ x, LS[k] = x := ⟨_, rfl⟩
        rw [hy] at hcell hriy hly Hic hcx
        rw [hx] at hcellx hrix hlx hcx
        clear hy hx
        have hcc := fun (w1 : World) (hb : Below wr.heap.size wr w1) => lCompare_any AX AY x y cx cy w1 (hrix.below hb) (hriy.below hb) (by omega) (by omega)
        rw [hcx] at hcc
        have Hcc := Lib.hid hcc
        clear hcc hcx
        go_wp2_with fail
        refine Hic.out.mono ?_
        rintro e w5 ⟨rfl, hb5⟩
        have g1 := (hb5.cell (lt_of_cell hcellx)).trans hcellx
        go_wp2_with fail
        refine (Hcc.out w5 hb5).mono ?_
        rintro e w6 ⟨rfl, rfl⟩
        go_wp2_with fail
        go_roundw
        case rel => exact ⟨k + 2, by omega, by go_num, endB hbl hb5⟩
        case measure => simp [intOf]; omega
    case neg =>
    have hr4l := Hr4.out.below hbl
    have hrpl := hrp4.below hbl
    have hTl := hT4.below hbl
    have Hr5 := Lib.hid hr4l
    clear hr4l e0 e1
    obtain ⟨wo, hwo⟩ : ∃ wo, wo = wr := ⟨_, rfl⟩
    subst hwo
    go_wp2_with fail
    clear hkl hk
    go_loopw [98] (fun j wr => ∃ k : Nat, k ≤ NS.length ∧ j = .int .i64 k ∧ Below wo.heap.size wo wr) (fun j _ => NS.length - (intOf j).toNat)
    case atStart => exact ⟨0, Nat.zero_le _, rfl, Below.refl _ _⟩
    case round =>
      obtain ⟨k, hk, rfl, hbk⟩ := hrel
      have e0 := (hbk.cell (lt_of_cell f0)).trans f0
      have e1 := (hbk.cell (lt_of_cell f1)).trans f1
      have hBk := endB hBl hbk
      by_cases hkl : k < NS.length
      case neg =>
        go_wp2_with fail
        refine (awake14_any wr (hTl.below hbk)).mono ?_
        rintro e w9 ⟨rfl, hb9⟩
        go_wp2_with fail
        go_ret
        exact ⟨rfl, endB hBk hb9⟩
      case pos =>
      have hkl' : (k : Int) < (NS.length : Int) := by omega
      have hk0' : (0 : Int) ≤ (k : Int) := by omega
      obtain ⟨b, o, AY, cy, hA, hcell, _, hriy⟩ := Hr5.out.below hbk k hkl
      subst hA
      have hcy := Hcf.out k hkl
      have hly := Hnln.out k hkl
      have hmk := Hmost.out k hkl
      have hcx : ∀ h : 0 < k, cmpLs (NS[k - 1]'(by omega)) NS[k] = -1 := fun h => by
        have := Hncmp.out (k - 1) (by omega)
        simpa only [Nat.sub_add_cancel h] using this
      obtain ⟨y, hy⟩ : ∃ y, NS[k] = y := ⟨_, rfl⟩
      rw [hy] at hcell hriy hcy hly hmk hcx
      clear hy
      have hcfc := r13ConflictFree_any AL n l cl AY y cy wr (hrpl.below hbk) hlen Hgl.out hriy (by omega)
      rw [hcy] at hcfc
      have Hcfc := Lib.hid hcfc; have Hcx := Lib.hid hcx; have Hmk := Lib.hid hmk
      clear hcfc hcy hcx hmk
      go_upto_region 16 with fail
      go_cut [120] (fun s120 wx => s120 = .bool false ∧ Below wr.heap.size wr wx)
      case first =>
        cases k with
        | zero =>
          go_wp2_with fail
          refine Hcfc.out.mono ?_
          rintro e w5 ⟨rfl, hb5⟩
          go_wp2_with fail
          go_meet
          exact ⟨rfl, hb5⟩
        | succ k =>
          have hk2 : k < NS.length := by omega
          obtain ⟨b', o', AX, cx, hA', hcellx, _, hrix⟩ := Hr5.out.below hbk k hk2
          injection hA' with hA'
          injection hA' with hA1 hA2 _
          subst hA1 hA2
          have hlx := Hnln.out k hk2
          have hcx := Hcx.out (by omega)
          simp only [Nat.add_sub_cancel] at hcx
          obtain ⟨x, hx⟩ : ∃ x, NS[k] = x := ⟨_, rfl⟩
          rw [hx] at hcellx hrix hlx hcx
          clear hx
          have hcc := fun (w1 : World) (hb : Below wr.heap.size wr w1) => lCompare_any AX AY x y cx cy w1 (hrix.below hb) (hriy.below hb) (by omega) (by omega)
          rw [hcx] at hcc
          have Hcc := Lib.hid hcc
          clear hcc hcx
          go_wp2_with fail
          refine Hcfc.out.mono ?_
          rintro e w5 ⟨rfl, hb5⟩
          have g1 := (hb5.cell (lt_of_cell hcellx)).trans hcellx
          go_wp2_with fail
          refine (Hcc.out w5 hb5).mono ?_
          rintro e w6 ⟨rfl, rfl⟩
          go_wp2_with fail
          go_meet
          exact ⟨rfl, hb5⟩
      obtain ⟨rfl, hbc⟩ := hcut
      have h0 := (hbc.cell (lt_of_cell e0)).trans e0
      have h1 := (hbc.cell (lt_of_cell e1)).trans e1
      have hbkc := endB hbk hbc
      have hrpc := (hrpl.below hbk).below hbc
      have hriy2 := hriy.below hbc
      clear e0 e1 hcell hbc hriy Hcfc Hcx
      obtain ⟨wk, hwk⟩ : ∃ wk, wk = wc := ⟨_, rfl⟩
      subst hwk
      go_wp2_with fail
      go_loopw [13] (fun j wi => ∃ i : Nat, i ≤ n ∧ j = .int .i64 i ∧ Below wk.heap.size wk wi) (fun j _ => n - (intOf j).toNat)
      case atStart => exact ⟨0, Nat.zero_le _, rfl, Below.refl _ _⟩
      case round =>
        obtain ⟨i, hi, rfl, hbi⟩ := hrel
        have q0 := (hbi.cell (lt_of_cell h0)).trans h0
        have q1 := (hbi.cell (lt_of_cell h1)).trans h1
        have hbki := endB hbkc hbi
        by_cases hin : i < n
        case neg =>
          have hin' : ¬ (i : Int) < (n : Int) := by omega
          go_wp2_with fail
          go_roundw
          case rel => exact ⟨k + 1, by omega, by go_num, hbki⟩
          case measure => simp [intOf]; omega
        case pos =>
        have hin' : (i : Int) < (n : Int) := by omega
        have hrpi := hrpc.below hbi
        have hriyi := hriy2.below hbi
        obtain ⟨wo2, hwo2⟩ : ∃ w', w' = wr := ⟨_, rfl⟩
        subst hwo2
        obtain ⟨B, hB⟩ : ∃ B, inB y (i : Int) = B := ⟨_, rfl⟩
        have HB := Lib.hid hB
        have Hnum := Lib.hid (show i + 1 ≤ n ∧ n - (i + 1) < n - i by omega)
        go_upto_region 21 with fail
        refine wp_region_textB [2, 3, 4, 8, 9] (SB wo2) (RIs []) (by kernel_rfl) (by kernel_rfl) (by kernel_rfl) (Below.refl _ _).drew (RIs.nil _) ?_
        repeat (first
          | (refine TxtBL.skip (by rfl) ?_; simp only [Act.put, List.setIfInBounds_toArray, List.set_cons_zero, List.set_cons_succ])
          | (refine TxtBL.take (by rfl) (by rfl) ?_; apply Exists.intro; refine ⟨fun w1 hS1 => ?_, ?_⟩; (focus ((have g0 := (hS1.cell (lt_of_cell q0)).trans q0); (have g1 := (hS1.cell (lt_of_cell q1)).trans q1); go_simp; with_reducible rfl)); simp only [Act.put, List.setIfInBounds_toArray, List.set_cons_zero, List.set_cons_succ])
          | (refine TxtBL.takeE (by rfl) (by rfl) ?_; apply Exists.intro; refine ⟨fun w1 hS1 => ?_, ?_⟩; (focus ((have g0 := (hS1.cell (lt_of_cell q0)).trans q0); (have g1 := (hS1.cell (lt_of_cell q1)).trans q1); go_simp; with_reducible rfl)); simp only [Act.put, List.setIfInBounds_toArray, List.set_cons_zero, List.set_cons_succ]))
        refine TxtBL.callB (by rfl) (by rfl) ?_
        apply Exists.intro; apply Exists.intro
        refine ⟨fun w1 hS1 => ?_, ?_⟩
        focus (go_simp; first | with_reducible rfl | exact ⟨rfl, rfl⟩)
        refine ⟨.bool B, fun w1 hS1 hJ1 => ?_, ?_⟩
        · have H9 := (in_any AY y cy i w1 (by omega) (hriyi.below hS1)).mono fun e w' h => h.quiet.below
          rw [HB.out] at H9
          exact H9
        simp only [Act.put, List.setIfInBounds_toArray, List.set_cons_zero, List.set_cons_succ]
        cases B
        case true =>
          repeat (first
            | (refine TxtBL.skip (by rfl) ?_; simp only [Act.put, List.setIfInBounds_toArray, List.set_cons_zero, List.set_cons_succ])
            | (refine TxtBL.take (by rfl) (by rfl) ?_; apply Exists.intro; refine ⟨fun w1 hS1 => ?_, ?_⟩; (focus ((have g0 := (hS1.cell (lt_of_cell q0)).trans q0); (have g1 := (hS1.cell (lt_of_cell q1)).trans q1); go_simp; with_reducible rfl)); simp only [Act.put, List.setIfInBounds_toArray, List.set_cons_zero, List.set_cons_succ])
            | (refine TxtBL.takeE (by rfl) (by rfl) ?_; apply Exists.intro; refine ⟨fun w1 hS1 => ?_, ?_⟩; (focus ((have g0 := (hS1.cell (lt_of_cell q0)).trans q0); (have g1 := (hS1.cell (lt_of_cell q1)).trans q1); go_simp; with_reducible rfl)); simp only [Act.put, List.setIfInBounds_toArray, List.set_cons_zero, List.set_cons_succ]))
          refine TxtBL.nil (fun W3 hS3 _ => ?_)
          go_wp2_with fail
          go_roundw
          case rel => exact ⟨i + 1, Hnum.out.1, by go_num, hbi.trans (hS3.mono hbi.size)⟩
          case measure => simp [intOf]; omega
        case false =>
          have hmi := Hmk.out i hin hB
          have Hmi := Lib.hid hmi
          have hil : (insL y (i : Int)).length ≤ 100000 := by have := insL_len y (i : Int); omega
          have Hil := Lib.hid hil
          clear hmi hil hB
          repeat (first
            | (refine TxtBL.skip (by rfl) ?_; simp only [Act.put, List.setIfInBounds_toArray, List.set_cons_zero, List.set_cons_succ])
            | (refine TxtBL.take (by rfl) (by rfl) ?_; apply Exists.intro; refine ⟨fun w1 hS1 => ?_, ?_⟩; (focus ((have g0 := (hS1.cell (lt_of_cell q0)).trans q0); (have g1 := (hS1.cell (lt_of_cell q1)).trans q1); go_simp; with_reducible rfl)); simp only [Act.put, List.setIfInBounds_toArray, List.set_cons_zero, List.set_cons_succ])
            | (refine TxtBL.takeE (by rfl) (by rfl) ?_; apply Exists.intro; refine ⟨fun w1 hS1 => ?_, ?_⟩; (focus ((have g0 := (hS1.cell (lt_of_cell q0)).trans q0); (have g1 := (hS1.cell (lt_of_cell q1)).trans q1); go_simp; with_reducible rfl)); simp only [Act.put, List.setIfInBounds_toArray, List.set_cons_zero, List.set_cons_succ]))
          refine TxtBL.callI (by rfl) (by rfl) ?_
          apply Exists.intro; apply Exists.intro
          refine ⟨fun w1 hS1 => ?_, ?_⟩
          focus (go_simp; first | with_reducible rfl | exact ⟨rfl, rfl⟩)
          refine ⟨insL y (i : Int), fun w1 hS1 hJ1 => insert_any AY y cy i w1 (hriyi.below hS1) (by omega), fun A9 c9 => ?_⟩
          simp only [Act.put, List.setIfInBounds_toArray, List.set_cons_zero, List.set_cons_succ]
          repeat (first
            | (refine TxtBL.skip (by rfl) ?_; simp only [Act.put, List.setIfInBounds_toArray, List.set_cons_zero, List.set_cons_succ])
            | (refine TxtBL.take (by rfl) (by rfl) ?_; apply Exists.intro; refine ⟨fun w1 hS1 => ?_, ?_⟩; (focus ((have g0 := (hS1.cell (lt_of_cell q0)).trans q0); (have g1 := (hS1.cell (lt_of_cell q1)).trans q1); go_simp; with_reducible rfl)); simp only [Act.put, List.setIfInBounds_toArray, List.set_cons_zero, List.set_cons_succ])
            | (refine TxtBL.takeE (by rfl) (by rfl) ?_; apply Exists.intro; refine ⟨fun w1 hS1 => ?_, ?_⟩; (focus ((have g0 := (hS1.cell (lt_of_cell q0)).trans q0); (have g1 := (hS1.cell (lt_of_cell q1)).trans q1); go_simp; with_reducible rfl)); simp only [Act.put, List.setIfInBounds_toArray, List.set_cons_zero, List.set_cons_succ]))
          refine TxtBL.callB (by rfl) (by rfl) ?_
          apply Exists.intro; apply Exists.intro
          refine ⟨fun w1 hS1 => ?_, ?_⟩
          focus (go_simp; first | with_reducible rfl | exact ⟨rfl, rfl⟩)
          refine ⟨.bool false, fun w1 hS1 hJ1 => ?_, ?_⟩
          · have H9 := r13ConflictFree_any AL n l cl A9 (insL y (i : Int)) c9 w1 (hrpi.below hS1) hlen Hgl.out hJ1.head Hil.out
            rw [Hmi.out] at H9
            exact H9
          simp only [Act.put, List.setIfInBounds_toArray, List.set_cons_zero, List.set_cons_succ]
          repeat (first
            | (refine TxtBL.skip (by rfl) ?_; simp only [Act.put, List.setIfInBounds_toArray, List.set_cons_zero, List.set_cons_succ])
            | (refine TxtBL.take (by rfl) (by rfl) ?_; apply Exists.intro; refine ⟨fun w1 hS1 => ?_, ?_⟩; (focus ((have g0 := (hS1.cell (lt_of_cell q0)).trans q0); (have g1 := (hS1.cell (lt_of_cell q1)).trans q1); go_simp; with_reducible rfl)); simp only [Act.put, List.setIfInBounds_toArray, List.set_cons_zero, List.set_cons_succ])
            | (refine TxtBL.takeE (by rfl) (by rfl) ?_; apply Exists.intro; refine ⟨fun w1 hS1 => ?_, ?_⟩; (focus ((have g0 := (hS1.cell (lt_of_cell q0)).trans q0); (have g1 := (hS1.cell (lt_of_cell q1)).trans q1); go_simp; with_reducible rfl)); simp only [Act.put, List.setIfInBounds_toArray, List.set_cons_zero, List.set_cons_succ]))
          refine TxtBL.nil (fun W3 hS3 _ => ?_)
          go_wp2_with fail
          go_roundw
          case rel => exact ⟨i + 1, Hnum.out.1, by go_num, hbi.trans (hS3.mono hbi.size)⟩
          case measure => simp [intOf]; omega
end Go.Proofs.YtajocnhebfpjaaaDoor
