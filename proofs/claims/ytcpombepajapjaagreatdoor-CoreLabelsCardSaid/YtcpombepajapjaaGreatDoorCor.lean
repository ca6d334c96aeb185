/- Package core: Common, greatest, Ideal, Eager. -/
import Derived.Test.YtcpombepajapjaaGreatDoorPl16
namespace Go.Proofs.YtcpombepajapjaaGreatDoor
open Go.ChangeShapes Go.WideShapes Go.ChangeAt Go.RowKit

theorem common_cons {L : List (List Int)} (h : 0 < L.length) : commonL L = nodesB L[0].length fun i => L.all fun y => atB y (i : Int) := by
  cases L with
  | nil => simp at h
  | cons x L => rfl
theorem common_small {L : List (List Int)} {n : Nat} (h : ∀ y ∈ L, y.length ≤ n) : (commonL L).length ≤ n := by
  unfold commonL
  refine Nat.le_trans (nodesB_length _ _) ?_
  cases L with
  | nil => simp
  | cons x L => exact h x (by simp)

set_option maxRecDepth 100000 in
set_option maxHeartbeats 2000000 in
theorem xCommon_any (A : Option Addr) (L : List (List Int)) (ca : Nat) (w : World) (hL : RS w A L) (hlL : L.length ≤ 100000) (hll : ∀ x ∈ L, x.length ≤ 1000) :
    Calls Tryz.prog 15 #[.slice A L.length ca] w (RetI (commonL L) w) := by
  by_cases h0 : L.length = 0
  · have hnil : L = [] := List.eq_nil_of_length_eq_zero h0
    subst hnil
    clear h0
    go_enter Tryz.func15, Tryz.ntmps15
    go_wp2_with fail
    go_ret
    exact RetI.mk (OwnI.nil _ _) (Below.refl _ _)
  have hpos : 0 < L.length := by omega
  have hposI : (0 : Int) < (L.length : Int) := by omega
  obtain ⟨b, o, AX, cx, hA, hcell, hri⟩ := hL.at_ hpos
  subst hA
  have hcm := common_cons hpos
  have hx1 := hll _ (List.getElem_mem hpos)
  obtain ⟨x0, hx0⟩ : ∃ x, L[0] = x := ⟨_, rfl⟩
  rw [hx0] at hcell hri hcm hx1
  obtain ⟨f, hf⟩ : ∃ f : Nat → Bool, (fun (i : Nat) => L.all fun y => atB y (i : Int)) = f := ⟨_, rfl⟩
  rw [hf] at hcm
  have HAll := fun (k : Nat) (w : World) (h : RS w (some ⟨b, o, none⟩) L) => xAll_any (some ⟨b, o, none⟩) L ca k w h hlL hll
  have hfk : ∀ k : Nat, (L.all fun y => atB y (k : Int)) = f k := fun k => congrFun hf k
  simp only [hfk] at HAll
  have HA := Lib.hid HAll; have Hcm := Lib.hid hcm
  have hl0 : ((L.length : Int) == 0) = false := by rw [beq_eq_false_iff_ne]; omega
  have hcell0 : w.cell? ⟨b, o, none⟩ = some (.slice AX x0.length cx) := by rw [Nat.add_zero] at hcell; exact hcell
  clear hx0 hf hfk HAll hcm h0 hll
  go_enter Tryz.func15, Tryz.ntmps15
  go_wp2_with fail
  go_loopw [3, 12] (fun v i wr => ∃ k : Nat, k ≤ x0.length ∧ i = .int .i64 k ∧ OwnI wr w.heap.size v (nodesB k f) ∧ Below w.heap.size w wr) (fun _ i _ => x0.length - (intOf i).toNat)
  case atStart => exact ⟨0, Nat.zero_le _, rfl, OwnI.nil _ _, Below.refl _ _⟩
  case round =>
    obtain ⟨k, hk, rfl, hown, hbl⟩ := hrel
    have Hown := Lib.hid hown; clear hown
    by_cases hlt : k < x0.length
    case neg =>
      obtain rfl : k = x0.length := by omega
      go_wp2_with fail
      go_ret
      rw [Hcm.out]
      exact RetI.mk Hown.out hbl
    case pos =>
    have hlt' : (k : Int) < (x0.length : Int) := by omega
    have Hq := Lib.hid (HA.out k wr (hL.below hbl))
    have hkl : (nodesB k f).length ≤ 1000000 := by have := nodesB_length k f; omega
    have Hs := Lib.hid (nodesB_succ k f)
    go_wp2_with fail
    refine Hq.out.mono ?_
    rintro e w5 ⟨rfl, hb5⟩
    have hbl5 := endB hbl hb5
    have Hown5 := Lib.hid (OwnI.below Hown.out hb5)
    cases hd : f k
    · have Hd := Lib.hid hd; clear hd
      go_wp2_with fail
      go_roundw
      case rel => exact ⟨k + 1, by omega, by go_num, by rw [Hs.out, Hd.out]; simpa using Hown5.out, hbl5⟩
      case measure => simp [intOf]; omega
    · have Hd := Lib.hid hd; clear hd
      go_wp2_with (at_builtin; refine wpList_appI (by rfl) _ _ (by rfl) w5 w.heap.size _ _ (k : Int) Hown5.out (by rfl) (by rfl) hkl hbl5.size ?_; intro v' w3 hown' hb3 _)
      go_roundw
      case rel => exact ⟨k + 1, by omega, by go_num, by rw [Hs.out, Hd.out]; exact hown', hbl5.trans hb3⟩
      case measure => simp [intOf]; omega

theorem bestR_zero {p : List Int → List Int → Bool} {N : Int} {l : List (Int × Int)} (h : (bestR p N l).2 = 0) (hlen : l.length ≤ 100000) :
    ∃ n : Nat, N = n ∧ Vld n l ∧ (bestR p N l).1 = keptL p (compL n l) ∧ (compL n l).length ≤ 200 := by
  have hz : valE N l = 0 := by
    unfold bestR at h
    split at h
    · rename_i hc
      exact Classical.byContradiction fun hne => by rw [compR_bad hne] at hc; exact hne hc
    · rename_i hc; exact absurd h hc
  obtain ⟨n, rfl, hv⟩ := vld_of_valE hz hlen
  refine ⟨n, rfl, hv, ?_⟩
  rw [bestR_ok hz] at h ⊢
  split at h
  · simp at h
  · rename_i hc
    rw [if_neg hc]
    exact ⟨rfl, by omega⟩

set_option maxRecDepth 100000 in
set_option maxHeartbeats 4000000 in
theorem greatest_any (fn : FuncId) (p : List Int → List Int → Bool) (hcf : ∀ a w, (callFunc fn #[a]).run Tryz.prog w = .ok (.enter fn #[a]) w)
    (hj : ∀ A (N : Int) (l : List (Int × Int)) (c : Nat) w, RP w A l → l.length ≤ 100000 → Tab w → Calls Tryz.prog fn #[.agg #[.int .i64 N, .slice A l.length c]] w (RetLC (bestR p N l) w))
    (A : Option Addr) (N : Int) (l : List (Int × Int)) (c : Nat) (w : World) (hr : RP w A l) (hlen : l.length ≤ 100000) (hT : Tab w) :
    Calls Tryz.prog 18 #[.agg #[.int .i64 N, .slice A l.length c], .func (.func fn) #[] #[]] w (RetE (coreR p N l).1 (coreR p N l).2 w) := by
  go_enter Tryz.func18, Tryz.ntmps18
  go_upto_region 1 with fail
  obtain ⟨W0, hW, d0, d1, hb0, hlt0⟩ := boxed w 24 (.int .i64 N) (.slice A l.length c)
  rw [hW]
  clear hW
  have hr0 := hr.below hb0
  have hT0 := hT.below hb0
  have hcc := hj A N l c W0 hr0 hlen hT0
  have hcore : coreR p N l = if (bestR p N l).2 = 0 then (fromL N.toNat l (shrinkL N.toNat l (commonL (bestR p N l).1)).1, 0) else ([], (bestR p N l).2) := rfl
  have hz : (bestR p N l).2 = 0 → _ := fun h => bestR_zero h hlen
  generalize bestR p N l = C at *
  have Hcc := Lib.hid hcc; have Hcore := Lib.hid hcore; have Hz := Lib.hid hz; have Hcf := hcf
  clear hcc hcore hz hj
  obtain ⟨L, x⟩ := C
  go_wp2_with fail
  refine Hcc.out.mono ?_
  rintro e W5 ⟨A5, c5, rfl, hr5, hn5, _, hb5⟩
  have hB5 := endB hb0 hb5
  have hr5' : RSo W5 A5 L := hr5
  have e0 := (hb5.cell (lt_of_cell d0)).trans d0
  have e1 := (hb5.cell (lt_of_cell d1)).trans d1
  have hr1 := hr0.below hb5
  have hT1 := hT0.below hb5
  have Hr5 := Lib.hid hr5'.rs
  clear Hcc hr5 hr5' hn5 d0 d1 hr hr0 hT hT0
  by_cases hx0 : x = 0
  case neg =>
    have hxb : (x == 0) = false := beq_eq_false_iff_ne.2 hx0
    have hres : coreR p N l = ([], x) := by rw [Hcore.out]; exact if_neg hx0
    have Hres := Lib.hid hres
    clear hres
    go_wp2_with fail
    go_ret2
    rw [Hres.out]
    exact RetE.nil x hB5
  case pos =>
  subst hx0
  obtain ⟨n, rfl, hv, hLk, hcl⟩ := Hz.out rfl
  have hLk' : L = keptL p (compL n l) := hLk
  have hcom : ∀ y ∈ L, comB n l y = true := by rw [hLk']; exact kept_com
  have hn40 := hv.1.1
  have hll : ∀ y ∈ L, y.length ≤ 1000 := fun y hy => by rw [comB_len (hcom y hy)]; omega
  have hL2 : L.length ≤ 200 := by rw [hLk']; exact Nat.le_trans kept_len hcl
  have hres : coreR p n l = (coreL n l L, 0) := by
    rw [Hcore.out]
    show (if (0 : Int) = 0 then _ else _) = _
    rw [if_pos rfl]
    simp only [Int.toNat_natCast]
    rw [core_shrink hv.1 hcom]
    rfl
  have hsh := core_shrink hv.1 hcom
  have hcs : (commonL L).length ≤ 1000 := common_small hll
  have hes : (coreE n l L).length ≤ 100000 := Nat.le_trans (nodesB_length _ _) (by omega)
  have Hres := Lib.hid hres; have Hsh := Lib.hid hsh; have Hll := Lib.hid hll
  clear hres hsh hcom hLk hLk' hcl Hcore Hz hll
  obtain ⟨CS, hCS⟩ : ∃ q, commonL L = q := ⟨_, rfl⟩
  obtain ⟨ES, hES⟩ : ∃ q, coreE n l L = q := ⟨_, rfl⟩
  have hXC := fun w h => xCommon_any A5 L c5 w h (by omega) Hll.out
  have hXS := fun B cb w h1 h2 h3 => aShrink_any A n l c B (commonL L) cb w h1 hv.1 h2 (by omega) h3
  rw [hCS] at hXC
  rw [Hsh.out, hCS, hES] at hXS
  have hXF := fun B cb w h1 h2 => lFromSet_any A n l c B (coreE n l L) cb w h1 hv h2 hes
  have hfe : coreL n l L = fromL n l (coreE n l L) := rfl
  rw [hES] at hXF hfe
  have HXC := Lib.hid hXC; have HXS := Lib.hid hXS; have HXF := Lib.hid hXF; have Hfe := Lib.hid hfe
  clear hXC hXS hXF hfe hCS hES hes hcs Hll Hsh
  go_wp2_with fail
  refine wp_region_textB [2, 3] (fun w' => Below W5.heap.size W5 w') (fun _ => True) (by kernel_rfl) (by kernel_rfl) (by kernel_rfl) (Below.refl _ _).drew trivial ?_
  repeat (first
    | (refine TxtBL.skip (by rfl) ?_; simp only [Act.put, List.setIfInBounds_toArray, List.set_cons_zero, List.set_cons_succ])
    | (refine TxtBL.take (by rfl) (by rfl) ?_; apply Exists.intro; refine ⟨fun w1 hS1 => ?_, ?_⟩; (focus ((have g0 := (hS1.cell (lt_of_cell e0)).trans e0); (have g1 := (hS1.cell (lt_of_cell e1)).trans e1); go_simp; with_reducible rfl)); simp only [Act.put, List.setIfInBounds_toArray, List.set_cons_zero, List.set_cons_succ])
    | (refine TxtBL.takeE (by rfl) (by rfl) ?_; apply Exists.intro; refine ⟨fun w1 hS1 => ?_, ?_⟩; (focus ((have g0 := (hS1.cell (lt_of_cell e0)).trans e0); (have g1 := (hS1.cell (lt_of_cell e1)).trans e1); go_simp; with_reducible rfl)); simp only [Act.put, List.setIfInBounds_toArray, List.set_cons_zero, List.set_cons_succ]))
  refine TxtBL.call (f := 15) (args := #[.slice A5 L.length c5]) (fun v => ∃ A c, v = Value.slice A CS.length c) (fun v w' => OwnI w' W5.heap.size v CS) (by rfl) (by rfl) ⟨_, none, 0, rfl⟩ (fun w1 hS1 hJ1 => by go_simp) (fun w1 hS1 hJ1 => ?_) ?_
  · refine (HXC.out w1 (Hr5.out.below hS1)).mono ?_
    rintro e w' ⟨A', c', rfl, ho, _, _, hb⟩
    exact ⟨_, rfl, endB hS1 hb, ⟨A', c', rfl⟩, OwnI.mono ho hS1.size⟩
  rintro v8 ⟨A8, c8, rfl⟩
  simp only [Act.put, List.setIfInBounds_toArray, List.set_cons_zero, List.set_cons_succ]
  refine TxtBL.call (f := 28) (args := #[.agg #[.int .i64 n, .slice A l.length c], .slice A8 CS.length c8]) (fun v => ∃ A c, v = Value.tuple #[.slice A ES.length c, .int .i64 0]) (fun v w' => ∃ A c, v = Value.tuple #[.slice A ES.length c, .int .i64 0] ∧ RI w' A ES) (by rfl) (by rfl) ⟨_, none, 0, rfl⟩ (fun w1 hS1 hJ1 => by go_simp) (fun w1 hS1 hJ1 => ?_) ?_
  · refine (HXS.out A8 c8 w1 (hr1.below hS1) (OwnI.ri hJ1) (hT1.below hS1)).mono ?_
    rintro e w' ⟨A', c', rfl, ho, hri, _, hb⟩
    exact ⟨_, rfl, endB hS1 hb, ⟨A', c', rfl⟩, ⟨A', c', rfl, hri⟩⟩
  rintro v9 ⟨A9, c9, rfl⟩
  simp only [Act.put, List.setIfInBounds_toArray, List.set_cons_zero, List.set_cons_succ]
  repeat (first
    | (refine TxtBL.skip (by rfl) ?_; simp only [Act.put, List.setIfInBounds_toArray, List.set_cons_zero, List.set_cons_succ])
    | (refine TxtBL.take (by rfl) (by rfl) ?_; apply Exists.intro; refine ⟨fun w1 hS1 => ?_, ?_⟩; (focus (skip; go_simp; with_reducible rfl)); simp only [Act.put, List.setIfInBounds_toArray, List.set_cons_zero, List.set_cons_succ])
    | (refine TxtBL.takeE (by rfl) (by rfl) ?_; apply Exists.intro; refine ⟨fun w1 hS1 => ?_, ?_⟩; (focus (skip; go_simp; with_reducible rfl)); simp only [Act.put, List.setIfInBounds_toArray, List.set_cons_zero, List.set_cons_succ]))
  refine TxtBL.nil (fun W1 hS hJ => ?_)
  obtain ⟨A', c', he, hri⟩ := hJ
  have heA : A9 = A' := by simp at he; exact he.1
  subst heA
  have hB1 := endB hB5 hS
  have g0 := (hS.cell (lt_of_cell e0)).trans e0
  have g1 := (hS.cell (lt_of_cell e1)).trans e1
  have hr2 := hr1.below hS
  clear he hS e0 e1 hr1 Hr5
  go_wp2_with fail
  refine (HXF.out A9 c9 W1 hr2 hri).mono ?_
  rintro e W2 ⟨A2, c2, rfl, ho2, hri2, hn2, hb2⟩
  have HO := Lib.hid ho2; have HR2 := Lib.hid hri2; have HN2 := Lib.hid hn2
  clear ho2 hri2 hn2
  go_wp2_with fail
  go_ret2
  rw [Hres.out]
  show RetE (coreL n l L) 0 w _ _
  rw [Hfe.out]
  exact ⟨A2, c2, rfl, OwnI.mono HO.out hB1.size, HR2.out, HN2.out, endB hB1 hb2⟩

set_option maxRecDepth 100000 in
set_option maxHeartbeats 1000000 in
theorem xIdeal_any (A : Option Addr) (N : Int) (l : List (Int × Int)) (c : Nat) (w : World) (hr : RP w A l) (hlen : l.length ≤ 100000) (hT : Tab w) :
    Calls Tryz.prog 8 #[.agg #[.int .i64 N, .slice A l.length c]] w (RetE (coreR prefP N l).1 (coreR prefP N l).2 w) := by
  go_enter Tryz.func8, Tryz.ntmps8
  go_upto_region 1 with fail
  obtain ⟨W0, hW, d0, d1, hb0, hlt0⟩ := boxed w 24 (.int .i64 N) (.slice A l.length c)
  rw [hW]
  clear hW
  have H := greatest_any 19 prefP (fun _ _ => rfl) (fun A N l c w h1 h2 h3 => xPreferred_any A N l c w h1 h2 h3) A N l c W0 (hr.below hb0) hlen (hT.below hb0)
  obtain ⟨R, hR⟩ : ∃ R, coreR prefP N l = R := ⟨_, rfl⟩
  rw [hR] at H
  have HH := Lib.hid H; have HR := Lib.hid hR
  clear H hR
  go_wp2_with fail
  refine HH.out.mono ?_
  rintro e w1 ⟨A1, c1, rfl, ho1, hr1, hn1, hb1⟩
  have Ho1 := Lib.hid ho1; have Hr1 := Lib.hid hr1; have Hn1 := Lib.hid hn1
  clear ho1 hr1 hn1
  go_wp2_with fail
  go_ret2
  rw [HR.out]
  exact ⟨A1, c1, rfl, OwnI.mono Ho1.out hb0.size, Hr1.out, Hn1.out, endB hb0 hb1⟩
set_option maxRecDepth 100000 in
set_option maxHeartbeats 1000000 in
theorem xEager_any (A : Option Addr) (N : Int) (l : List (Int × Int)) (c : Nat) (w : World) (hr : RP w A l) (hlen : l.length ≤ 100000) (hT : Tab w) :
    Calls Tryz.prog 10 #[.agg #[.int .i64 N, .slice A l.length c]] w (RetE (coreR semiP N l).1 (coreR semiP N l).2 w) := by
  go_enter Tryz.func10, Tryz.ntmps10
  go_upto_region 1 with fail
  obtain ⟨W0, hW, d0, d1, hb0, hlt0⟩ := boxed w 24 (.int .i64 N) (.slice A l.length c)
  rw [hW]
  clear hW
  have H := greatest_any 22 semiP (fun _ _ => rfl) (fun A N l c w h1 h2 h3 => xSemiStable_any A N l c w h1 h2 h3) A N l c W0 (hr.below hb0) hlen (hT.below hb0)
  obtain ⟨R, hR⟩ : ∃ R, coreR semiP N l = R := ⟨_, rfl⟩
  rw [hR] at H
  have HH := Lib.hid H; have HR := Lib.hid hR
  clear H hR
  go_wp2_with fail
  refine HH.out.mono ?_
  rintro e w1 ⟨A1, c1, rfl, ho1, hr1, hn1, hb1⟩
  have Ho1 := Lib.hid ho1; have Hr1 := Lib.hid hr1; have Hn1 := Lib.hid hn1
  clear ho1 hr1 hn1
  go_wp2_with fail
  go_ret2
  rw [HR.out]
  exact ⟨A1, c1, rfl, OwnI.mono Ho1.out hb0.size, Hr1.out, Hn1.out, endB hb0 hb1⟩
end Go.Proofs.YtcpombepajapjaaGreatDoor
