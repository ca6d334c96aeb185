/- law15: the walk of ExtensionContains. -/
import Derived.Test.YtcpombepajapjaaDoorPlf
import Derived.Test.YtcpombepajapjaaDoorHas15
import Derived.Test.YtcpombepajapjaaDoorPl14x
namespace Go.Proofs.YtcpombepajapjaaDoor
open Go.ChangeShapes Go.WideShapes Go.ChangeAt Go.RowKit

/-- a row of truth values in a block of its own -/
def RowB (w : World) (g n : Nat) (f : Nat → Bool) : Prop := w.rowIs g 4 n fun i => .bool (f i)
theorem RowB.cell {w : World} {g n : Nat} {f : Nat → Bool} (h : RowB w g n f) {i : Nat} (hi : i < n) : w.cell? ⟨g, i, none⟩ = some (.bool (f i)) := World.rowIs.cell h hi
theorem RowB.frozen {w : World} {g n : Nat} {f : Nat → Bool} (h : RowB w g n f) (i : Nat) : w.frozen? ⟨g, i, none⟩ = false := World.rowIs.frozen h i
theorem RowB.lt {w : World} {g n : Nat} {f : Nat → Bool} (h : RowB w g n f) : g < w.heap.size := World.rowIs.lt h
theorem RowB.set {w : World} {g n : Nat} {f : Nat → Bool} (h : RowB w g n f) (i : Nat) (x : Bool) : RowB (w.setCell ⟨g, i, none⟩ (.bool x)) g n (fun j => if j = i then x else f j) :=
  World.rowIs.congr (World.rowIs.set h i (.bool x)) fun j _ => by dsimp only; split <;> rfl
theorem RowB.congr {w : World} {g n : Nat} {f f' : Nat → Bool} (h : RowB w g n f) (e : ∀ i, i < n → f i = f' i) : RowB w g n f' := World.rowIs.congr h fun i hi => by rw [e i hi]
theorem RowB.below {w w' : World} {g n : Nat} {f : Nat → Bool} (h : RowB w g n f) (hb : Below w.heap.size w w') : RowB w' g n f := rowIs_new h hb
/-- what is read elsewhere stays as it is when only that row changes -/
theorem RowB.other {w : World} {g n : Nat} {f : Nat → Bool} (h : RowB w g n f) {w' : World} (hn : Near g w.heap.size w w') {b o : Nat} {v : Value} (hv : ∀ x, v ≠ .bool x) (hc : w.cell? ⟨b, o, none⟩ = some v) : w'.cell? ⟨b, o, none⟩ = some v := by
  by_cases hb : b = g
  · subst hb
    obtain ⟨c, h1, h2, h3⟩ := h
    have hk : w.cell? ⟨b, o, none⟩ = c[o]? := Blk.cell (show Blk w b 4 c from h1) o
    rw [hk] at hc
    have ho : o < n := by
      have := (Array.getElem?_eq_some_iff.1 hc).1
      omega
    rw [h3 o ho] at hc
    injection hc with hc
    exact absurd hc.symm (hv _)
  · exact hn.grown.cell hc (fun e => hb (by injection e))
theorem RI.other {w w' : World} {g n : Nat} {f : Nat → Bool} {A : Option Addr} {l : List Int} (h : RI w A l) (hr : RowB w g n f) (hn : Near g w.heap.size w w') : RI w' A l := fun k hk => by
  obtain ⟨b, o, hA, hc⟩ := h k hk
  exact ⟨b, o, hA, hr.other hn (fun x e => by cases e) hc⟩
theorem RS.other {w w' : World} {g n : Nat} {f : Nat → Bool} {A : Option Addr} {L : List (List Int)} (h : RS w A L) (hr : RowB w g n f) (hn : Near g w.heap.size w w') : RS w' A L := fun k hk => by
  obtain ⟨b, o, A', c', hA, hc, hi⟩ := h k hk
  exact ⟨b, o, A', c', hA, hr.other hn (fun x e => by cases e) hc, hi.other hr hn⟩
theorem RP.other {w w' : World} {g n : Nat} {f : Nat → Bool} {A : Option Addr} {l : List (Int × Int)} (h : RP w A l) (hr : RowB w g n f) (hn : Near g w.heap.size w w') : RP w' A l := fun k hk => by
  obtain ⟨b, o, hA, hc, hd⟩ := h k hk
  exact ⟨b, o, hA, hr.other hn (fun x e => by cases e) hc, hr.other hn (fun x e => by cases e) hd⟩
theorem Near.belowOf {w w1 w2 : World} {g : Nat} (hb : Below w.heap.size w w1) (hn : Near g w1.heap.size w1 w2) (hg : w.heap.size ≤ g) : Below w.heap.size w w2 :=
  ⟨hn.os.trans hb.os, hn.tape.trans hb.tape, hn.output.trans hb.output, Nat.le_trans hb.size hn.size, fun k hk => (hn.block k (Nat.lt_of_lt_of_le hk hb.size) (by omega)).trans (hb.block k hk)⟩
theorem Near.setRow {w w1 : World} {g : Nat} (hn : Near g w.heap.size w w1) (i : Nat) (v : Value) : Near g w.heap.size w (w1.setCell ⟨g, i, none⟩ v) := by
  have h := grownBy_setCell w1 g i v
  exact hn.trans ⟨h.os, h.tape, h.output, h.size, fun k hk hne => h.block k (Nat.lt_of_lt_of_le hk hn.size) (fun e => hne (by injection e))⟩
theorem info_bool : (Tryd.prog.info? 4).map (fun i => (i.zero, i.size, i.bytes)) = some (some (.bool false), 1, 1) := by kernel_rfl

set_option maxRecDepth 100000 in
set_option maxHeartbeats 8000000 in
theorem con_law_any (A : Option Addr) (arg : List Int) (c : Nat) (w : World)
    (hlc : arg.length ≤ c) (hc : c ≤ 9223372036854775807) (hr : RI w A arg) (hx : ∀ x ∈ arg, -9223372036854775808 ≤ x ∧ x ≤ 9223372036854775807) (hT : Tab w) :
    Calls Tryd.prog 4 #[.slice A arg.length c] w (RetB (.bool true) w) := by
  go_enter Tryd.func4, Tryd.ntmps4
  go_wp2_with fail
  refine (new_any A arg c w hlc hc hr hx).mono ?_
  rintro e w1 ⟨p, rfl, hp, hs1, hb1⟩
  have hp1 := hs1.lt
  clear hr hx
  go_wp2_with fail
  refine (graph_any p 6 w1 hs1 (by omega)).mono ?_
  rintro e w2 ⟨n, l, AL, cl, rfl, hN, hv, hrp, hloc, hs2, hg2⟩
  have hb2 : Below w.heap.size w w2 := hb1.trans (below_of_grownBy hg2 hp hb1.size)
  clear hs1 hb1 hg2
  go_wp2_with fail
  obtain ⟨W0, hW, c0, c1, hb0, hlt0⟩ := boxed w2 28 (.int .i64 n) (.slice AL l.length cl)
  rw [hW]
  clear hW
  have hB0 := endB hb2 hb0
  have hrp := hrp.below hb0
  have hlen := hv.1.2.1
  have HV := Lib.hid hv
  have hve := hv.valE
  have hT0 := hT.below hB0
  clear hs2 hb0 hb2 hp1 hv hloc
  generalize w2.heap.size = G at *
  have hPR : bestR prefP n l = (keptL prefP (compL n l), 0) := by
    rw [bestR_ok hve, if_neg (by have := comp_few HV.out.1 hN; omega)]
  have hc := xPreferred_any AL n l cl W0 hrp hlen hT0
  rw [hPR] at hc
  have hPl : (keptL prefP (compL n l)).length ≤ 200 := Nat.le_trans kept_len (comp_few HV.out.1 hN)
  have hPx : ∀ x ∈ keptL prefP (compL n l), x.length = n := fun x hx => comp_len (mem_kept.1 hx).1
  have hab : ∀ x, soundL n l x = true → (keptL prefP (compL n l)).any (fun y => insideB x (withL y 1)) = true := fun x hs => by
    obtain ⟨y, hy, h⟩ := adm_above HV.out.1 hs
    exact List.any_eq_true.2 ⟨y, hy, h⟩
  have hfin : ∀ i, i < n → accB n l (setsL n) i = (keptL prefP (compL n l)).any fun y => atB y i := fun i hi => acc_all HV.out.1 hi
  have hset : ∀ x ∈ setsL n, setB n x = true := fun x hx => sets_mem hx
  have hsm : ∀ k (h : k < (setsL n).length), (setsL n)[k].length ≤ n := fun k h => sets_small h
  have Hsm := Lib.hid hsm
  clear hsm
  have hsl : (setsL n).length ≤ 64 := by
    rw [setsL_length]
    exact Nat.le_trans (Nat.pow_le_pow_right (by omega) hN) (by omega)
  generalize keptL prefP (compL n l) = PL at *
  have Hc := Lib.hid hc; have HPx := Lib.hid hPx; have Hab := Lib.hid hab; have Hfin := Lib.hid hfin; have Hset := Lib.hid hset
  clear hc hPR hPx hab hfin hve hset
  go_wp2_with fail
  refine Hc.out.mono ?_
  rintro e w3 ⟨AP, cp, rfl, hrs, _, _, hb⟩
  have hB1 := endB hB0 hb
  have hP3 := hrs.rs
  have f0 := (hb.cell (lt_of_cell c0)).trans c0
  have f1 := (hb.cell (lt_of_cell c1)).trans c1
  have hrp1 := hrp.below hb
  have hT1 := hT0.below hb
  clear Hc hrs hb c0 c1 hrp hT0
  have hmk := run_make_row' (P := Tryd.prog) 39 4 (.bool false) 1 Tryd.underlying39 info_bool rfl .i64 .i64 n (by omega) (by omega)
  have f2 : (w3.alloc (.cells (madeCells #[.bool false] n) 4)).cell? ⟨G, 0, none⟩ = some (.int .i64 n) := ((newB _ _).cell (lt_of_cell f0)).trans f0
  go_wp2_with fail
  clear hmk
  have hrow : RowB (w3.alloc (.cells (madeCells #[.bool false] n) 4)) w3.heap.size n (fun _ => false) := World.rowIs_made _ _ _ _
  have hnb := newB w3 (.cells (madeCells #[.bool false] n) 4)
  have f3 := (hnb.cell (lt_of_cell f1)).trans f1
  have hP4 := hP3.below hnb
  have hrp4 := hrp1.below hnb
  have hT4 := hT1.below hnb
  have hB4 := endB hB1 hnb
  have hg : w.heap.size ≤ w3.heap.size := hB1.size
  generalize w3.alloc (.cells (madeCells #[.bool false] n) 4) = w4 at *
  generalize w3.heap.size = g at *
  clear f0 f1 hP3 hrp1 hT1 hnb hB1
  have hn10 : n ≤ 10 := by omega
  refine (sets_any n w4 hn10).mono ?_
  rintro e w5 ⟨A5, c5, rfl, hrs5, hb5⟩
  have hS5 := hrs5.rs
  have hrow5 := hrow.below hb5
  have d0 := (hb5.cell (lt_of_cell f2)).trans f2
  have d1 := (hb5.cell (lt_of_cell f3)).trans f3
  have hP5 := hP4.below hb5
  have hrp5 := hrp4.below hb5
  have hB5 := endB hB4 hb5
  clear hrs5 hrow f2 f3 hP4 hrp4 hT4 hb5 hB4 hn10
  have hat0 : accB n l ((setsL n).take 0) = fun _ => false := by funext i; unfold accB; rw [List.take_zero]; rfl
  obtain ⟨S, hS⟩ : ∃ S, setsL n = S := ⟨_, rfl⟩
  rw [hS] at hS5 hsl hat0 Hset Hfin Hsm ⊢
  have Hat0 := Lib.hid hat0
  clear hS hat0
  go_wp2_with fail
  go_loopw [34] (fun j wr => ∃ k : Nat, k ≤ S.length ∧ j = .int .i64 k ∧ Near g w5.heap.size w5 wr ∧ RowB wr g n (accB n l (S.take k))) (fun j _ => S.length - (intOf j).toNat)
  case atStart => exact ⟨0, by omega, rfl, Near.refl _ _ _, by rw [Hat0.out]; exact hrow5⟩
  case round =>
    obtain ⟨k, hk, rfl, hnr, hrr⟩ := hrel
    have hSr := hS5.other hrow5 hnr; have hPr := hP5.other hrow5 hnr; have hrpr := hrp5.other hrow5 hnr
    have e0 := hrow5.other hnr (fun x e => by cases e) d0
    have e1 := hrow5.other hnr (fun x e => by cases e) d1
    have hBr := hnr.belowOf hB5 hg
    have hTr := hT.below hBr
    by_cases hkl : k < S.length
    case pos =>
      have hkl' : (k : Int) < (S.length : Int) := by omega
      obtain ⟨b, o, A', c', hA, hcell, hri⟩ := hSr.at_ hkl
      subst hA
      have hmem := List.getElem_mem hkl
      have hmiss := acc_miss (n := n) (l := l) hkl
      have hhit := acc_hit (n := n) (l := l) hkl
      have hsm := Hsm.out k hkl
      obtain ⟨x, hx⟩ : ∃ x, S[k] = x := ⟨_, rfl⟩
      rw [hx] at hcell hri hmem hmiss hhit
      have hsx := Hset.out x hmem
      have hxl : x.length ≤ 100000 := by rw [hx] at hsm; omega
      clear hsm
      have hcl := aAdmissible_any AL n l cl A' x c' wr hrpr HV.out.1 hri hxl
      have Hmiss := Lib.hid hmiss; have Hhit := Lib.hid hhit; have Hsx := Lib.hid hsx; have Hx := Lib.hid hx
      rw [show (setB n x && soundB n l (maskN x)) = soundL n l x from rfl] at hcl
      have Hcl := Lib.hid hcl
      obtain ⟨q, hq⟩ : ∃ q, soundL n l x = q := ⟨_, rfl⟩
      rw [hq] at Hcl
      have Hq := Lib.hid hq
      clear hmiss hhit hsx hcl hx hmem hq
      go_wp2_with fail
      refine Hcl.out.mono ?_
      rintro e w6 ⟨rfl, hb6⟩
      have hn6 := hnr.trans (Near.of_below (hb6.mono hnr.size) : Near g w5.heap.size wr w6)
      have hr6 := hrr.below hb6
      clear e0 e1 hnr hrr hSr hrpr
      cases q
      case false =>
        go_wp2_with fail
        go_roundw
        case rel => exact ⟨k + 1, by omega, by go_num, hn6, by rw [Hmiss.out Hq.out]; exact hr6⟩
        case measure => simp [intOf]; omega
      case true =>
      have hP6 := hPr.below hb6
      have hri6 := hri.below hb6
      have hfnd := Hab.out x Hq.out
      have Hfnd := Lib.hid hfnd
      clear hfnd hPr hri hcell
      go_wp2_with fail
      go_loopw [10, 44] (fun s10 j ws => ∃ t : Nat, t ≤ PL.length ∧ j = .int .i64 t ∧ s10 = .bool ((PL.take t).any fun y => insideB x (withL y 1)) ∧ Below w6.heap.size w6 ws) (fun _ j _ => PL.length - (intOf j).toNat)
      case atStart => exact ⟨0, by omega, rfl, rfl, Below.refl _ _⟩
      case round =>
        obtain ⟨t, ht, rfl, rfl, hbs⟩ := hrel
        obtain ⟨ws, hwws⟩ : ∃ q, q = wr := ⟨_, rfl⟩
        subst hwws
        have hPs := hP6.below hbs
        have hris := hri6.below hbs
        by_cases htl : t < PL.length
        case pos =>
          have htl' : (t : Int) < (PL.length : Int) := by omega
          obtain ⟨b2, o2, A2, c2, hA, hcell, hri2⟩ := hPs.at_ htl
          subst hA
          have hyl : PL[t].length ≤ 6 := by have := HPx.out _ (List.getElem_mem htl); omega
          have hst := any_stepX (fun y => insideB x (withL y 1)) PL htl
          obtain ⟨y, hy⟩ : ∃ y, PL[t] = y := ⟨_, rfl⟩
          rw [hy] at hcell hri2 hyl hst
          obtain ⟨q, hq⟩ : ∃ q, (PL.take t).any (fun y => insideB x (withL y 1)) = q := ⟨_, rfl⟩
          rw [hq] at hst ⊢
          have Hst := Lib.hid hst
          clear hst hy hq
          cases q
          case true =>
            go_wp2_with fail
            go_roundw
            case rel => exact ⟨t + 1, by omega, by go_num, by rw [Hst.out]; rfl, hbs⟩
            case measure => simp [intOf]; omega
          case false =>
          have hwi := with_any A2 y c2 1 ws hri2 (by omega)
          have hwl : (withL y 1).length ≤ 100 := Nat.le_trans (nodesB_length _ _) (by omega)
          obtain ⟨s, hs⟩ : ∃ s, withL y 1 = s := ⟨_, rfl⟩
          rw [hs] at hwi hwl Hst
          have Hwi := Lib.hid hwi
          clear hwi hs
          go_wp2_with fail
          refine Hwi.out.mono ?_
          rintro e w7 ⟨A7, c7, rfl, _, hr7, _, hb7⟩
          have hqq := inside_any A' A7 x s c' c7 w7 (by omega) (by omega) (hris.below hb7) hr7
          have Hqq := Lib.hid hqq
          clear hqq
          go_wp2_with fail
          refine Hqq.out.mono ?_
          rintro e w8 hret
          obtain ⟨rfl, hw8⟩ := hret
          subst hw8
          go_wp2_with fail
          go_roundw
          case rel => exact ⟨t + 1, by omega, by go_num, by rw [Hst.out]; rfl, endB hbs hb7⟩
          case measure => simp [intOf]; omega
        case neg =>
        rw [List.take_of_length_le (by omega), Hfnd.out]
        have hrs := hr6.below hbs
        have hns := hn6.trans (Near.of_below (hbs.mono hn6.size) : Near g w5.heap.size w6 ws)
        have hxn : ∀ t (h : t < x.length), ∃ i : Nat, i < n ∧ x[t] = i := fun t h => by
          have hm : x[t] ∈ x := List.getElem_mem h
          have hm2 : x[t] ∈ nodesB n (maskN x).testBit := by rw [set_nodes Hsx.out]; exact hm
          obtain ⟨i, hi, _, e⟩ := mem_nodesB.1 hm2
          exact ⟨i, hi, e⟩
        have Hxn := Lib.hid hxn
        clear hxn
        go_wp2_with fail
        go_loopw [60] (fun j wt => ∃ t : Nat, t ≤ x.length ∧ j = .int .i64 t ∧ Near g w5.heap.size w5 wt ∧ RowB wt g n (fun i => accB n l (S.take k) i || inB (x.take t) i) ∧ RI wt (A') x) (fun j _ => x.length - (intOf j).toNat)
        case atStart => exact ⟨0, by omega, rfl, hns, hrs.congr fun i _ => by rw [List.take_zero]; simp [inB], hris⟩
        case round =>
          clear hns hrs hris hbs htl ht
          obtain ⟨t, ht, rfl, hnt, hrt, hrit⟩ := hrel
          obtain ⟨wt, hwwt⟩ : ∃ q, q = wr := ⟨_, rfl⟩
          subst hwwt
          by_cases htl : t < x.length
          case pos =>
            have htl' : (t : Int) < (x.length : Int) := by omega
            obtain ⟨b2, o2, rfl, hcell⟩ := hrit.at_ htl
            obtain ⟨i, hi, hxi⟩ := Hxn.out t htl
            have htk : x.take (t + 1) = x.take t ++ [(i : Int)] := by rw [List.take_succ_eq_append_getElem htl, hxi]
            rw [hxi] at hcell
            have hi0 : (0 : Int) ≤ (i : Int) := by omega
            have hi1 : (i : Int) < (n : Int) := by omega
            have hfz := hrt.frozen i
            have hck := hrt.cell hi
            have hset := hrt.set i true
            have hns := hnt.setRow i (.bool true)
            have hris := hrit.other hrt (Near.refl g wt.heap.size wt |>.setRow i (.bool true))
            have Htk := Lib.hid htk; have Hset := Lib.hid hset
            clear htk hset hxi
            go_wp2_with fail
            go_roundw
            case rel =>
              refine ⟨t + 1, by omega, by go_num, hns, Hset.out.congr fun j _ => ?_, hris⟩
              rw [Htk.out]
              by_cases hj : j = i
              · subst hj; simp [inB]
              · have : (j : Int) ≠ (i : Int) := by omega
                simp [inB, hj, this]
            case measure => simp [intOf]; omega
          case neg =>
          go_wp2_with fail
          go_roundw
          case rel => exact ⟨k + 1, by omega, by go_num, hnt, hrt.congr fun i _ => by rw [Hhit.out Hq.out, List.take_of_length_le (l := x) (by omega)]⟩
          case measure => simp [intOf]; omega
    case neg =>
    rw [List.take_of_length_le (by omega)] at hrr
    have hrr := hrr.congr fun i hi => Hfin.out i hi
    clear e0 e1 hSr hrpr
    go_wp2_with fail
    go_loopw [71] (fun j ws => ∃ t : Nat, t ≤ n ∧ j = .int .i64 t ∧ Below wr.heap.size wr ws) (fun j _ => n - (intOf j).toNat)
    case atStart => exact ⟨0, by omega, rfl, Below.refl _ _⟩
    case round =>
      obtain ⟨t, ht, rfl, hbs⟩ := hrel
      obtain ⟨ws, hwws⟩ : ∃ q, q = wr := ⟨_, rfl⟩
      subst hwws
      by_cases htl : t < n
      case neg =>
        go_wp2_with fail
        refine (awake15_any ws (hTr.below hbs)).mono ?_
        rintro e w6 ⟨rfl, hb6⟩
        go_wp2_with fail
        go_ret
        exact ⟨rfl, endB hBr (endB hbs hb6)⟩
      case pos =>
      have htl' : (t : Int) < (n : Int) := by omega
      have ht0 : (0 : Int) ≤ (t : Int) := by omega
      have hrs := hrr.below hbs
      have hck := hrs.cell htl
      have hq := xSome_any AP PL cp (t : Int)
      obtain ⟨q, hqq⟩ : ∃ q, (PL.any fun y => atB y (t : Int)) = q := ⟨_, rfl⟩
      rw [hqq] at hck hq
      have Hqq := Lib.hid hqq; have Hq := Lib.hid hq
      have hPs := hPr.below hbs
      have hnn : (q != q) = false := bne_self_eq_false q
      clear hqq hq
      obtain ⟨W0, hW0⟩ : ∃ W0, W0 = ws := ⟨_, rfl⟩
      subst hW0
      go_wp2_with fail
      refine wp_region_text (S := fun w' => Below W0.heap.size W0 w') (by kernel_rfl) (by kernel_rfl) (Below.refl _ _).drew ?_
      repeat (first
        | (refine TxtL.skip (by rfl) ?_; simp only [Act.put, List.setIfInBounds_toArray, List.set_cons_zero, List.set_cons_succ])
        | (refine TxtL.take' (by rfl) ?_; apply Exists.intro; refine ⟨fun w1 hS1 => ?_, ?_⟩; (focus ((have h0 := (hS1.cell (lt_of_cell hck)).trans hck); go_simp; with_reducible rfl)); simp only [Act.put, List.setIfInBounds_toArray, List.set_cons_zero, List.set_cons_succ])
        | (refine TxtL.call' (by rfl) ?_; apply Exists.intro; apply Exists.intro; refine ⟨fun w1 hS1 => ?_, ?_⟩; (focus (go_simp; first | with_reducible rfl | exact ⟨rfl, rfl⟩)); apply Exists.intro; refine ⟨fun w1 hS1 => ?_, ?_⟩; (focus ((have h0 := (hS1.cell (lt_of_cell hck)).trans hck); first | (refine (Hq.out w1 (hPs.below hS1) (by omega) (fun x hx => by have := HPx.out x hx; omega)).mono ?_; rintro e w' ⟨rfl, hbb⟩; exact ⟨rfl, hS1.trans (hbb.mono hS1.size)⟩))); simp only [Act.put, List.setIfInBounds_toArray, List.set_cons_zero, List.set_cons_succ]))
      refine TxtL.nil (fun w1 hS1 => ?_)
      have hbl2 := endB hbs hS1
      go_wp2_with fail
      go_roundw
      case rel => exact ⟨t + 1, by omega, by go_num, hbl2⟩
      case measure => simp [intOf]; omega
end Go.Proofs.YtcpombepajapjaaDoor
