/- ref16: Common, greatest, Ideal, Eager. -/
import Derived.Test.YtcpombepajapjaaGreatDoorCor
import Derived.Test.YtcpombepajapjaaGreatDoorRfv
import Derived.Test.YtcpombepajapjaaGreatDoorRShrink
namespace Go.Proofs.YtcpombepajapjaaGreatDoor
open Go.ChangeShapes Go.WideShapes Go.ChangeAt Go.RowKit

theorem OwnI.bare {w : World} {b c n : Nat} {l : List Int} (h : OwnI w b (.slice none n c) l) : l = [] ∧ c = 0 := by
  obtain ⟨A, c', he, _, hn⟩ := h.form2
  injection he with h1 h2 h3
  subst h1
  obtain ⟨e1, e2⟩ := hn rfl
  exact ⟨e1, by omega⟩

set_option maxRecDepth 100000 in
set_option maxHeartbeats 2000000 in
theorem r16Common_any (A : Option Addr) (L : List (List Int)) (ca : Nat) (w : World) (hL : RS w A L) (hlL : L.length ≤ 100000) (hll : ∀ x ∈ L, x.length ≤ 1000) :
    Calls Tryz.prog 16 #[.slice A L.length ca] w (RetI (commonL L) w) := by
  by_cases h0 : L.length = 0
  · have hnil : L = [] := List.eq_nil_of_length_eq_zero h0
    subst hnil
    clear h0
    go_enter Tryz.func16, Tryz.ntmps16
    go_wp2_with fail
    go_loopw [3, 4] (fun v i wr => v = .slice none 0 0 ∧ i = .int .i64 0 ∧ wr = w) (fun _ _ _ => 0)
    case atStart => exact ⟨rfl, rfl, rfl⟩
    case round =>
      obtain ⟨rfl, rfl, rfl⟩ := hrel
      go_wp2_with fail
      go_ret
      exact RetI.mk (OwnI.nil _ _) (Below.refl _ _)
  have hpos : 0 < L.length := by omega
  have hposI : (0 : Int) < (L.length : Int) := by omega
  obtain ⟨b, o, AX, cx, hA, hcell, hri⟩ := hL.at_ hpos
  subst hA
  have hcm := common_cons hpos
  have hx1 := hll _ (List.getElem_mem hpos)
  obtain ⟨x0, hx0⟩ : ∃ x, L[0] = x := ⟨_, rfl⟩
  rw [hx0] at hcell hri hcm hx1
  obtain ⟨f, hf⟩ : ∃ f : Nat → Bool, (fun (i : Nat) => L.all fun y => atB y (i : Int)) = f := ⟨_, rfl⟩
  rw [hf] at hcm
  have HAll := fun (k : Nat) (w : World) (h : RS w (some ⟨b, o, none⟩) L) => r15All_any (some ⟨b, o, none⟩) L ca k w h hlL hll
  have hfk : ∀ k : Nat, (L.all fun y => atB y (k : Int)) = f k := fun k => congrFun hf k
  simp only [hfk] at HAll
  have HA := Lib.hid HAll; have Hcm := Lib.hid hcm
  clear hx0 hf hfk HAll hcm h0 hll
  go_enter Tryz.func16, Tryz.ntmps16
  go_wp2_with fail
  go_loopw [3, 4] (fun v i wr => ∃ k : Nat, k ≤ x0.length ∧ i = .int .i64 k ∧ OwnI wr w.heap.size v (nodesB k f) ∧ Below w.heap.size w wr) (fun _ i _ => x0.length - (intOf i).toNat)
  case atStart => exact ⟨0, Nat.zero_le _, rfl, OwnI.nil _ _, Below.refl _ _⟩
  case round =>
    obtain ⟨k, hk, rfl, hown, hbl⟩ := hrel
    have Hown := Lib.hid hown; clear hown
    have hcell1 := (hbl.cell (lt_of_cell hcell)).trans hcell
    have hcell2 : wr.cell? ⟨b, o, none⟩ = some (.slice AX x0.length cx) := by rw [Nat.add_zero] at hcell1; exact hcell1
    by_cases hlt : k < x0.length
    case neg =>
      obtain rfl : k = x0.length := by omega
      go_wp2_with fail
      go_ret
      rw [Hcm.out]
      exact RetI.mk Hown.out hbl
    case pos =>
    have hlt' : (k : Int) < (x0.length : Int) := by omega
    have Hq := Lib.hid (HA.out k wr (hL.below hbl))
    have hkl : (nodesB k f).length ≤ 1000000 := by have := nodesB_length k f; omega
    have Hs := Lib.hid (nodesB_succ k f)
    go_wp2_with fail
    refine Hq.out.mono ?_
    rintro e w5 ⟨rfl, rfl⟩
    cases hd : f k
    · have Hd := Lib.hid hd; clear hd
      go_wp2_with fail
      go_roundw
      case rel => exact ⟨k + 1, by omega, by go_num, by rw [Hs.out, Hd.out]; simpa using Hown.out, hbl⟩
      case measure => simp [intOf]; omega
    · have Hd := Lib.hid hd; clear hd
      go_wp2_with (at_builtin; refine wpList_appI (by rfl) _ _ (by rfl) wr w.heap.size _ _ (k : Int) Hown.out (by rfl) (by rfl) hkl hbl.size ?_; intro v' w3 hown' hb3 _)
      go_roundw
      case rel => exact ⟨k + 1, by omega, by go_num, by rw [Hs.out, Hd.out]; exact hown', hbl.trans hb3⟩
      case measure => simp [intOf]; omega

set_option maxRecDepth 100000 in
set_option maxHeartbeats 2000000 in
theorem r16greatest_any (A : Option Addr) (n : Nat) (l : List (Int × Int)) (c : Nat) (B : Option Addr) (x : List Int) (cx : Nat) (w : World) (hr : RP w A l) (hv : Vld n l) (hx : RI w B x) (hxl : x.length ≤ 1000) (hB : B = none → x = [] ∧ cx = 0) (y : List Int) (hy : shrinkL n l x = (y, 0)) (hyl : y.length ≤ 1000) :
    Calls Tryz.prog 21 #[.agg #[.int .i64 (n : Int), .slice A l.length c], .slice B x.length cx] w (RetI (fromL n l y) w) := by
  have hgl : nGl n l = l := by unfold nGl; rw [hv.valE]; rfl
  go_enter Tryz.func21, Tryz.ntmps21
  go_upto_region 1 with fail
  obtain ⟨W0, hW, d0, d1, hb0, hlt0⟩ := boxed w 24 (.int .i64 n) (.slice A l.length c)
  rw [hW]
  clear hW
  have hsh := r13Shrink_any A n l c B x cx W0 (hr.below hb0) hv.1 hgl (hx.below hb0) (by omega) hB
  rw [hy] at hsh
  have hfr := fun B cb w h1 h2 => r11FromSet_any A n l c B y cb w h1 hv h2 (by omega)
  have hr0 := hr.below hb0
  have Hsh := Lib.hid hsh; have Hfr := Lib.hid hfr
  have Hy := Lib.hid hy
  clear hsh hfr hgl hy hB hx hr
  go_wp2_with fail
  refine Hsh.out.mono ?_
  rintro e w1 ⟨A1, c1, rfl, _, hr1, _, hb1⟩
  have e0 := (hb1.cell (lt_of_cell d0)).trans d0
  have e1 := (hb1.cell (lt_of_cell d1)).trans d1
  have Hf2 := Lib.hid (Hfr.out A1 c1 w1 (hr0.below hb1) hr1)
  clear d0 d1 Hfr hr1 hr0 Hsh
  go_wp2_with fail
  refine Hf2.out.mono ?_
  rintro e w2 ⟨A2, c2, rfl, ho2, hr2, hn2, hb2⟩
  have Ho2 := Lib.hid ho2; have Hr2 := Lib.hid hr2; have Hn2 := Lib.hid hn2
  clear ho2 hr2 hn2
  go_wp2_with fail
  go_ret
  have hB1 := endB hb0 hb1
  exact ⟨A2, c2, rfl, OwnI.mono Ho2.out hB1.size, Hr2.out, Hn2.out, endB hB1 hb2⟩

set_option maxRecDepth 100000 in
set_option maxHeartbeats 4000000 in
theorem r16Ideal_any (A : Option Addr) (N : Int) (l : List (Int × Int)) (c : Nat) (w : World) (hr : RP w A l) (hlen : l.length ≤ 100000) (hT : Tab w) :
    Calls Tryz.prog 9 #[.agg #[.int .i64 N, .slice A l.length c]] w (RetE (coreR prefP N l).1 (coreR prefP N l).2 w) := by
  go_enter Tryz.func9, Tryz.ntmps9
  go_upto_region 1 with fail
  obtain ⟨W0, hW, d0, d1, hb0, hlt0⟩ := boxed w 24 (.int .i64 N) (.slice A l.length c)
  rw [hW]
  clear hW
  have hr0 := hr.below hb0
  have hT0 := hT.below hb0
  have hcc := r15Preferred_any A N l c W0 hr0 hlen hT0
  have hcore : coreR prefP N l = if (bestR prefP N l).2 = 0 then (fromL N.toNat l (shrinkL N.toNat l (commonL (bestR prefP N l).1)).1, 0) else ([], (bestR prefP N l).2) := rfl
  have hz : (bestR prefP N l).2 = 0 → _ := fun h => bestR_zero h hlen
  generalize bestR prefP N l = C at *
  have Hcc := Lib.hid hcc; have Hcore := Lib.hid hcore; have Hz := Lib.hid hz
  clear hcc hcore hz
  obtain ⟨L, x⟩ := C
  go_wp2_with fail
  refine Hcc.out.mono ?_
  rintro e W5 ⟨A5, c5, rfl, hr5, hn5, hb5⟩
  have hB5 := endB hb0 hb5
  have hr5' : RSo W5 A5 L := hr5
  have e0 := (hb5.cell (lt_of_cell d0)).trans d0
  have e1 := (hb5.cell (lt_of_cell d1)).trans d1
  have hr1 := hr0.below hb5
  have Hr5 := Lib.hid hr5'.rs
  clear Hcc hr5 hr5' hn5 d0 d1 hr hr0 hT hT0
  by_cases hx0 : x = 0
  case neg =>
    have hxb : (x == 0) = false := beq_eq_false_iff_ne.2 hx0
    have hres : coreR prefP N l = ([], x) := by rw [Hcore.out]; exact if_neg hx0
    have Hres := Lib.hid hres
    clear hres
    go_wp2_with fail
    go_ret2
    rw [Hres.out]
    exact RetE.nil x hB5
  case pos =>
  subst hx0
  obtain ⟨n, rfl, hv, hLk, hcl⟩ := Hz.out rfl
  have hLk' : L = keptL prefP (compL n l) := hLk
  have hcom : ∀ y ∈ L, comB n l y = true := by rw [hLk']; exact kept_com
  have hn40 := hv.1.1
  have hll : ∀ y ∈ L, y.length ≤ 1000 := fun y hy => by rw [comB_len (hcom y hy)]; omega
  have hL2 : L.length ≤ 200 := by rw [hLk']; exact Nat.le_trans kept_len hcl
  have hsh := core_shrink hv.1 hcom
  have hres : coreR prefP n l = (fromL n l (coreE n l L), 0) := by
    rw [Hcore.out]
    show (if (0 : Int) = 0 then _ else _) = _
    rw [if_pos rfl]
    simp only [Int.toNat_natCast]
    rw [hsh]
  have hcs : (commonL L).length ≤ 1000 := common_small hll
  have hes : (coreE n l L).length ≤ 1000 := Nat.le_trans (nodesB_length _ _) (by omega)
  have hXC := fun w h => r16Common_any A5 L c5 w h (by omega) hll
  have hXG := fun B cb w h1 h2 h3 => r16greatest_any A n l c B (commonL L) cb w h1 hv h2 hcs h3 (coreE n l L) hsh hes
  obtain ⟨CS, hCS⟩ : ∃ q, commonL L = q := ⟨_, rfl⟩
  obtain ⟨R, hR⟩ : ∃ q, fromL n l (coreE n l L) = q := ⟨_, rfl⟩
  rw [hCS] at hXC
  rw [hCS, hR] at hXG
  rw [hR] at hres
  have Hres := Lib.hid hres; have HXC := Lib.hid hXC; have HXG := Lib.hid hXG
  clear hres hsh hcom hLk hLk' hcl Hcore Hz hll hcs hes hXC hXG hCS hR
  go_wp2_with fail
  refine wp_region_textB [2, 3] (fun w' => Below W5.heap.size W5 w') (fun _ => True) (by kernel_rfl) (by kernel_rfl) (by kernel_rfl) (Below.refl _ _).drew trivial ?_
  repeat (first
    | (refine TxtBL.skip (by rfl) ?_; simp only [Act.put, List.setIfInBounds_toArray, List.set_cons_zero, List.set_cons_succ])
    | (refine TxtBL.take (by rfl) (by rfl) ?_; apply Exists.intro; refine ⟨fun w1 hS1 => ?_, ?_⟩; (focus ((have g0 := (hS1.cell (lt_of_cell e0)).trans e0); (have g1 := (hS1.cell (lt_of_cell e1)).trans e1); go_simp; with_reducible rfl)); simp only [Act.put, List.setIfInBounds_toArray, List.set_cons_zero, List.set_cons_succ])
    | (refine TxtBL.takeE (by rfl) (by rfl) ?_; apply Exists.intro; refine ⟨fun w1 hS1 => ?_, ?_⟩; (focus ((have g0 := (hS1.cell (lt_of_cell e0)).trans e0); (have g1 := (hS1.cell (lt_of_cell e1)).trans e1); go_simp; with_reducible rfl)); simp only [Act.put, List.setIfInBounds_toArray, List.set_cons_zero, List.set_cons_succ]))
  refine TxtBL.call (f := 16) (args := #[.slice A5 L.length c5]) (fun v => ∃ A c, v = Value.slice A CS.length c) (fun v w' => OwnI w' W5.heap.size v CS) (by rfl) (by rfl) ⟨_, none, 0, rfl⟩ (fun w1 hS1 hJ1 => by go_simp) (fun w1 hS1 hJ1 => ?_) ?_
  · refine (HXC.out w1 (Hr5.out.below hS1)).mono ?_
    rintro e w' ⟨A', c', rfl, ho, _, _, hb⟩
    exact ⟨_, rfl, endB hS1 hb, ⟨A', c', rfl⟩, OwnI.mono ho hS1.size⟩
  rintro v8 ⟨A8, c8, rfl⟩
  simp only [Act.put, List.setIfInBounds_toArray, List.set_cons_zero, List.set_cons_succ]
  refine TxtBL.call (f := 21) (args := #[.agg #[.int .i64 n, .slice A l.length c], .slice A8 CS.length c8]) (fun v => ∃ A c, v = Value.slice A R.length c) (fun v w' => OwnI w' W5.heap.size v R) (by rfl) (by rfl) ⟨_, none, 0, rfl⟩ (fun w1 hS1 hJ1 => by go_simp) (fun w1 hS1 hJ1 => ?_) ?_
  · refine (HXG.out A8 c8 w1 (hr1.below hS1) (OwnI.ri hJ1) (fun e => by subst e; exact OwnI.bare hJ1)).mono ?_
    rintro e w' ⟨A', c', rfl, ho, hri, _, hb⟩
    exact ⟨_, rfl, endB hS1 hb, ⟨A', c', rfl⟩, OwnI.mono ho hS1.size⟩
  rintro v9 ⟨A9, c9, rfl⟩
  simp only [Act.put, List.setIfInBounds_toArray, List.set_cons_zero, List.set_cons_succ]
  repeat (first
    | (refine TxtBL.skip (by rfl) ?_; simp only [Act.put, List.setIfInBounds_toArray, List.set_cons_zero, List.set_cons_succ])
    | (refine TxtBL.take (by rfl) (by rfl) ?_; apply Exists.intro; refine ⟨fun w1 hS1 => ?_, ?_⟩; (focus (skip; go_simp; with_reducible rfl)); simp only [Act.put, List.setIfInBounds_toArray, List.set_cons_zero, List.set_cons_succ])
    | (refine TxtBL.takeE (by rfl) (by rfl) ?_; apply Exists.intro; refine ⟨fun w1 hS1 => ?_, ?_⟩; (focus (skip; go_simp; with_reducible rfl)); simp only [Act.put, List.setIfInBounds_toArray, List.set_cons_zero, List.set_cons_succ]))
  refine TxtBL.nil (fun W1 hS hJ => ?_)
  have HJ := Lib.hid hJ; have HS := Lib.hid hS
  clear hJ hS
  go_wp2_with fail
  go_ret2
  rw [Hres.out]
  exact ⟨A9, c9, rfl, OwnI.mono HJ.out hB5.size, OwnI.ri HJ.out, fun e => by subst e; exact (OwnI.bare HJ.out).1, endB hB5 HS.out⟩
set_option maxRecDepth 100000 in
set_option maxHeartbeats 4000000 in
theorem r16Eager_any (A : Option Addr) (N : Int) (l : List (Int × Int)) (c : Nat) (w : World) (hr : RP w A l) (hlen : l.length ≤ 100000) (hT : Tab w) :
    Calls Tryz.prog 11 #[.agg #[.int .i64 N, .slice A l.length c]] w (RetE (coreR semiP N l).1 (coreR semiP N l).2 w) := by
  go_enter Tryz.func11, Tryz.ntmps11
  go_upto_region 1 with fail
  obtain ⟨W0, hW, d0, d1, hb0, hlt0⟩ := boxed w 24 (.int .i64 N) (.slice A l.length c)
  rw [hW]
  clear hW
  have hr0 := hr.below hb0
  have hT0 := hT.below hb0
  have hcc := r15SemiStable_any A N l c W0 hr0 hlen hT0
  have hcore : coreR semiP N l = if (bestR semiP N l).2 = 0 then (fromL N.toNat l (shrinkL N.toNat l (commonL (bestR semiP N l).1)).1, 0) else ([], (bestR semiP N l).2) := rfl
  have hz : (bestR semiP N l).2 = 0 → _ := fun h => bestR_zero h hlen
  generalize bestR semiP N l = C at *
  have Hcc := Lib.hid hcc; have Hcore := Lib.hid hcore; have Hz := Lib.hid hz
  clear hcc hcore hz
  obtain ⟨L, x⟩ := C
  go_wp2_with fail
  refine Hcc.out.mono ?_
  rintro e W5 ⟨A5, c5, rfl, hr5, hn5, hb5⟩
  have hB5 := endB hb0 hb5
  have hr5' : RSo W5 A5 L := hr5
  have e0 := (hb5.cell (lt_of_cell d0)).trans d0
  have e1 := (hb5.cell (lt_of_cell d1)).trans d1
  have hr1 := hr0.below hb5
  have Hr5 := Lib.hid hr5'.rs
  clear Hcc hr5 hr5' hn5 d0 d1 hr hr0 hT hT0
  by_cases hx0 : x = 0
  case neg =>
    have hxb : (x == 0) = false := beq_eq_false_iff_ne.2 hx0
    have hres : coreR semiP N l = ([], x) := by rw [Hcore.out]; exact if_neg hx0
    have Hres := Lib.hid hres
    clear hres
    go_wp2_with fail
    go_ret2
    rw [Hres.out]
    exact RetE.nil x hB5
  case pos =>
  subst hx0
  obtain ⟨n, rfl, hv, hLk, hcl⟩ := Hz.out rfl
  have hLk' : L = keptL semiP (compL n l) := hLk
  have hcom : ∀ y ∈ L, comB n l y = true := by rw [hLk']; exact kept_com
  have hn40 := hv.1.1
  have hll : ∀ y ∈ L, y.length ≤ 1000 := fun y hy => by rw [comB_len (hcom y hy)]; omega
  have hL2 : L.length ≤ 200 := by rw [hLk']; exact Nat.le_trans kept_len hcl
  have hsh := core_shrink hv.1 hcom
  have hres : coreR semiP n l = (fromL n l (coreE n l L), 0) := by
    rw [Hcore.out]
    show (if (0 : Int) = 0 then _ else _) = _
    rw [if_pos rfl]
    simp only [Int.toNat_natCast]
    rw [hsh]
  have hcs : (commonL L).length ≤ 1000 := common_small hll
  have hes : (coreE n l L).length ≤ 1000 := Nat.le_trans (nodesB_length _ _) (by omega)
  have hXC := fun w h => r16Common_any A5 L c5 w h (by omega) hll
  have hXG := fun B cb w h1 h2 h3 => r16greatest_any A n l c B (commonL L) cb w h1 hv h2 hcs h3 (coreE n l L) hsh hes
  obtain ⟨CS, hCS⟩ : ∃ q, commonL L = q := ⟨_, rfl⟩
  obtain ⟨R, hR⟩ : ∃ q, fromL n l (coreE n l L) = q := ⟨_, rfl⟩
  rw [hCS] at hXC
  rw [hCS, hR] at hXG
  rw [hR] at hres
  have Hres := Lib.hid hres; have HXC := Lib.hid hXC; have HXG := Lib.hid hXG
  clear hres hsh hcom hLk hLk' hcl Hcore Hz hll hcs hes hXC hXG hCS hR
  go_wp2_with fail
  refine wp_region_textB [2, 3] (fun w' => Below W5.heap.size W5 w') (fun _ => True) (by kernel_rfl) (by kernel_rfl) (by kernel_rfl) (Below.refl _ _).drew trivial ?_
  repeat (first
    | (refine TxtBL.skip (by rfl) ?_; simp only [Act.put, List.setIfInBounds_toArray, List.set_cons_zero, List.set_cons_succ])
    | (refine TxtBL.take (by rfl) (by rfl) ?_; apply Exists.intro; refine ⟨fun w1 hS1 => ?_, ?_⟩; (focus ((have g0 := (hS1.cell (lt_of_cell e0)).trans e0); (have g1 := (hS1.cell (lt_of_cell e1)).trans e1); go_simp; with_reducible rfl)); simp only [Act.put, List.setIfInBounds_toArray, List.set_cons_zero, List.set_cons_succ])
    | (refine TxtBL.takeE (by rfl) (by rfl) ?_; apply Exists.intro; refine ⟨fun w1 hS1 => ?_, ?_⟩; (focus ((have g0 := (hS1.cell (lt_of_cell e0)).trans e0); (have g1 := (hS1.cell (lt_of_cell e1)).trans e1); go_simp; with_reducible rfl)); simp only [Act.put, List.setIfInBounds_toArray, List.set_cons_zero, List.set_cons_succ]))
  refine TxtBL.call (f := 16) (args := #[.slice A5 L.length c5]) (fun v => ∃ A c, v = Value.slice A CS.length c) (fun v w' => OwnI w' W5.heap.size v CS) (by rfl) (by rfl) ⟨_, none, 0, rfl⟩ (fun w1 hS1 hJ1 => by go_simp) (fun w1 hS1 hJ1 => ?_) ?_
  · refine (HXC.out w1 (Hr5.out.below hS1)).mono ?_
    rintro e w' ⟨A', c', rfl, ho, _, _, hb⟩
    exact ⟨_, rfl, endB hS1 hb, ⟨A', c', rfl⟩, OwnI.mono ho hS1.size⟩
  rintro v8 ⟨A8, c8, rfl⟩
  simp only [Act.put, List.setIfInBounds_toArray, List.set_cons_zero, List.set_cons_succ]
  refine TxtBL.call (f := 21) (args := #[.agg #[.int .i64 n, .slice A l.length c], .slice A8 CS.length c8]) (fun v => ∃ A c, v = Value.slice A R.length c) (fun v w' => OwnI w' W5.heap.size v R) (by rfl) (by rfl) ⟨_, none, 0, rfl⟩ (fun w1 hS1 hJ1 => by go_simp) (fun w1 hS1 hJ1 => ?_) ?_
  · refine (HXG.out A8 c8 w1 (hr1.below hS1) (OwnI.ri hJ1) (fun e => by subst e; exact OwnI.bare hJ1)).mono ?_
    rintro e w' ⟨A', c', rfl, ho, hri, _, hb⟩
    exact ⟨_, rfl, endB hS1 hb, ⟨A', c', rfl⟩, OwnI.mono ho hS1.size⟩
  rintro v9 ⟨A9, c9, rfl⟩
  simp only [Act.put, List.setIfInBounds_toArray, List.set_cons_zero, List.set_cons_succ]
  repeat (first
    | (refine TxtBL.skip (by rfl) ?_; simp only [Act.put, List.setIfInBounds_toArray, List.set_cons_zero, List.set_cons_succ])
    | (refine TxtBL.take (by rfl) (by rfl) ?_; apply Exists.intro; refine ⟨fun w1 hS1 => ?_, ?_⟩; (focus (skip; go_simp; with_reducible rfl)); simp only [Act.put, List.setIfInBounds_toArray, List.set_cons_zero, List.set_cons_succ])
    | (refine TxtBL.takeE (by rfl) (by rfl) ?_; apply Exists.intro; refine ⟨fun w1 hS1 => ?_, ?_⟩; (focus (skip; go_simp; with_reducible rfl)); simp only [Act.put, List.setIfInBounds_toArray, List.set_cons_zero, List.set_cons_succ]))
  refine TxtBL.nil (fun W1 hS hJ => ?_)
  have HJ := Lib.hid hJ; have HS := Lib.hid hS
  clear hJ hS
  go_wp2_with fail
  go_ret2
  rw [Hres.out]
  exact ⟨A9, c9, rfl, OwnI.mono HJ.out hB5.size, OwnI.ri HJ.out, fun e => by subst e; exact (OwnI.bare HJ.out).1, endB hB5 HS.out⟩
end Go.Proofs.YtcpombepajapjaaGreatDoor
