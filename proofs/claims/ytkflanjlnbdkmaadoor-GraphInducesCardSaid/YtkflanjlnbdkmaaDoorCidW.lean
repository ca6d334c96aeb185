/- The walk of the statement GraphInduces. -/
import Derived.Test.YtkflanjlnbdkmaaDoorA10
import Derived.Test.YtkflanjlnbdkmaaDoorCin
import Derived.Test.YtkflanjlnbdkmaaDoorGenM
import Derived.Test.YtkflanjlnbdkmaaDoorTxtX
namespace Go.Proofs.YtkflanjlnbdkmaaDoor
open Go.ChangeShapes Go.WideShapes Go.ChangeAt Go.RowKit

theorem indV_any {n : Nat} {l : List (Int × Int)} (hv : Vld n l) {nl : List Int} (hs : nl.Pairwise (· < ·)) (hr : ∀ x ∈ nl, ∃ j : Nat, x = j ∧ j < n) (A X : Option Addr) (c cs : Nat) (w : World) (hrp : RP w A l) (hx : RI w X nl) (hl : nl.length ≤ 100000) :
    Calls Tryd.prog 18 #[.agg #[.int .i64 (n : Int), .slice A l.length c], .slice X nl.length cs] w (RetGN (nl.length : Nat) (indP nl l) w) := by
  have h := gInduced_any A (n : Int) l c X nl cs w hrp hv.1.2.1 hx hl
  rw [nGn_vld hv, nGl_vld hv, Int.toNat_natCast, nodes_fix hs hr] at h
  exact h
theorem hasV_any {n : Nat} {l : List (Int × Int)} (hv : Vld n l) (A : Option Addr) (c : Nat) (a b : Int) (w : World) (hrp : RP w A l) :
    Calls Tryd.prog 26 #[.agg #[.int .i64 (n : Int), .slice A l.length c], .int .i64 a, .int .i64 b] w (RetB (.bool (hasB l a b)) w) := by
  have h := gHas_any A (n : Int) l c a b w hrp hv.1.2.1
  rw [nGl_vld hv] at h
  exact h
/-- the two graphs and the list of nodes, by their places -/
structure TwoI (G H n : Nat) (l : List (Int × Int)) (sm : List Int) (AL A2 AS : Option Addr) (cl c2 : Nat) (wr : World) : Prop where
  c0 : wr.cell? ⟨G, 0, none⟩ = some (.int .i64 n)
  c1 : wr.cell? ⟨G, 1, none⟩ = some (.slice AL l.length cl)
  e0 : wr.cell? ⟨H, 0, none⟩ = some (.int .i64 (sm.length : Nat))
  e1 : wr.cell? ⟨H, 1, none⟩ = some (.slice A2 (indP sm l).length c2)
  rl : RP wr AL l
  rv : RP wr A2 (indP sm l)
  rs : RI wr AS sm
  tab : Tab wr
theorem TwoI.below {G H n : Nat} {l : List (Int × Int)} {sm : List Int} {AL A2 AS : Option Addr} {cl c2 : Nat} {wr w' : World} (h : TwoI G H n l sm AL A2 AS cl c2 wr) (hb : Below wr.heap.size wr w') : TwoI G H n l sm AL A2 AS cl c2 w' :=
  ⟨(hb.cell (lt_of_cell h.c0)).trans h.c0, (hb.cell (lt_of_cell h.c1)).trans h.c1, (hb.cell (lt_of_cell h.e0)).trans h.e0, (hb.cell (lt_of_cell h.e1)).trans h.e1, h.rl.below hb, h.rv.below hb, h.rs.below hb, h.tab.below hb⟩

set_option maxRecDepth 100000 in
set_option maxHeartbeats 8000000 in
theorem gind_law_any (A : Option Addr) (arg : List Int) (c : Nat) (w : World)
    (hlc : arg.length ≤ c) (hc : c ≤ 9223372036854775807) (hr : RI w A arg) (hx : ∀ x ∈ arg, -9223372036854775808 ≤ x ∧ x ≤ 9223372036854775807) (hT : Tab w) :
    Calls Tryd.prog 5 #[.slice A arg.length c] w (RetB (.bool true) w) := by
  go_enter Tryd.func5, Tryd.ntmps5
  go_wp2_with fail
  refine (new_any A arg c w hlc hc hr hx).mono ?_
  rintro e w1 ⟨p, rfl, hp, hs1, hb1⟩
  have hp1 := hs1.lt
  clear hr hx
  go_wp2_with fail
  refine (graph_any p 9 w1 hs1 (by omega)).mono ?_
  rintro e w2 ⟨n, l, AL, cl, rfl, hN, hv, hrp, hloc, hs2, hg2⟩
  have hb2 : Below w.heap.size w w2 := hb1.trans (below_of_grownBy hg2 hp hb1.size)
  have hp2 := hs2.lt
  clear hs1 hb1 hg2
  go_wp2_with fail
  obtain ⟨W0, hW, c0, c1, hb0, hlt0⟩ := boxed w2 24 (.int .i64 n) (.slice AL l.length cl)
  rw [hW]
  clear hW
  have hst := GSt.start hp hp1 hb2 hs2 hrp hloc hb0 c0 c1
  have hn40 := hv.1.1; have hlen := hv.1.2.1
  have HV := Lib.hid hv
  have hW0 := hb0.size
  clear hs2 hrp hloc hb0 c0 c1 hb2 hp1 hv
  generalize w2.heap.size = G at *
  have c0r := hst.c0; have c1r := hst.c1
  refine (part_any p n W0 hst.src (by omega)).mono ?_
  rintro e w3 ⟨f, v, rfl, hown, hs3, hg3⟩
  have hst3 := hst.grown hs3 hg3
  obtain ⟨AS, cS, rfl, hri3, -⟩ := OwnI.form hown
  have hasc := nodesB_asc n f
  have hrng : ∀ x ∈ nodesB n f, ∃ j : Nat, x = j ∧ j < n := fun x hx => by
    obtain ⟨j, hj, _, e⟩ := mem_nodesB.1 hx
    exact ⟨j, e, hj⟩
  have hsl := nodesB_length n f
  have hASp : ∀ b o, AS = some ⟨b, o, none⟩ → nodesB n f ≠ [] → b ≠ p := fun b o e _ => by
    have := OwnI.block hown b (by rw [e]; rfl)
    omega
  have Hasc := Lib.hid hasc; have Hrng := Lib.hid hrng; have HASp := Lib.hid hASp
  have hvh := vld_ind HV.out hasc (by omega)
  have HVH := Lib.hid hvh
  have hlen2 := hvh.1.2.1
  have hT3 := hT.below hst3.hb
  have d0 := hst3.c0; have d1 := hst3.c1
  clear hst hs3 hg3 hown hasc hrng hASp hvh c0r c1r
  generalize nodesB n f = sm at *
  go_wp2_with fail
  refine (indV_any HV.out Hasc.out Hrng.out AL AS cl cS w3 hst3.rp hri3 (by omega)).mono ?_
  rintro e w4 ⟨A2, c2, rfl, hr4, hl4, hb4⟩
  go_upto_region 5 with fail
  obtain ⟨W5, hW5, e0, e1, hb5, hlt5⟩ := boxed w4 24 (.int .i64 (sm.length : Nat)) (.slice A2 (indP sm l).length c2)
  rw [hW5]
  clear hW5
  have hst5 := (hst3.below hb4).below hb5
  have hri5 := (hri3.below hb4).below hb5
  have hr5 := hr4.below hb5
  have hpw3 : p < w3.heap.size := hst3.src.lt
  have hHp : p < w4.heap.size := Nat.lt_of_lt_of_le hpw3 hb4.size
  have hA2p : ∀ b o, A2 = some ⟨b, o, none⟩ → b ≠ p := fun b o h => by have := hl4 b o h; omega
  have HA2p := Lib.hid hA2p
  have hval := gValidate_any A2 (sm.length : Nat) (indP sm l) c2 W5 hr5 hlen2
  rw [HVH.out.valE] at hval
  have Hval := Lib.hid hval
  have hd : ((sm.length : Int) != (sm.length : Int)) = false := by simp
  clear hst3 hri3 hr4 hl4 hb4 hb5 hval hA2p d0 d1
  go_wp2_with fail
  refine Hval.out.mono ?_
  rintro e w6 ⟨rfl, hb6⟩
  have hst6 := hst5.below hb6
  have hri6 := hri5.below hb6
  have hr6 := hr5.below hb6
  have k0 := (hb6.cell (lt_of_cell e0)).trans e0
  have k1 := (hb6.cell (lt_of_cell e1)).trans e1
  clear hst5 hri5 hr5 hb6 e0 e1 hd Hval
  go_wp2_with fail
  refine (part_any p sm.length w6 hst6.src (by omega)).mono ?_
  rintro e w7 ⟨f2, v2, rfl, hown7, hs7, hg7⟩
  have hst7 := hst6.grown hs7 hg7
  have hri7 : RI w7 AS sm := hri6.grown hg7 HASp.out
  have hr7 : RP w7 A2 (indP sm l) := hr6.grown hg7 HA2p.out
  have j0 := hg7.cell k0 (by simp; omega)
  have j1 := hg7.cell k1 (by simp; omega)
  obtain ⟨AF, cF, rfl, hrf7, -⟩ := OwnI.form hown7
  have hasc := nodesB_asc sm.length f2
  have hrng : ∀ x ∈ nodesB sm.length f2, ∃ j : Nat, x = j ∧ j < sm.length := fun x hx => by
    obtain ⟨j, hj, _, e⟩ := mem_nodesB.1 hx
    exact ⟨j, e, hj⟩
  have hfl := nodesB_length sm.length f2
  have Hasc2 := Lib.hid hasc; have Hrng2 := Lib.hid hrng
  have hT7 := hT.below hst7.hb
  have hbw7 := hst7.hb
  have h2 : TwoI G w4.heap.size n l sm AL A2 AS cl c2 w7 := ⟨hst7.c0, hst7.c1, j0, j1, hst7.rp, hr7, hri7, hT7⟩
  clear hst6 hst7 hri6 hr6 hri7 hr7 k0 k1 j0 j1 hs7 hg7 hown7 hasc hrng hT7 hT3
  generalize nodesB sm.length f2 = fw at *
  generalize w4.heap.size = H at *
  go_wp2_with fail
  have hdz : dirL sm (fw.take 0) = [] := rfl
  go_loopw [8, 44] (fun t8 t wr => ∃ q : Nat, q ≤ fw.length ∧ t = .int .i64 q ∧ OwnI wr w7.heap.size t8 (dirL sm (fw.take q)) ∧ Below w7.heap.size w7 wr) (fun _ t _ => fw.length - (intOf t).toNat)
  case atStart => exact ⟨0, Nat.zero_le _, rfl, by rw [hdz]; exact OwnI.nil _ _, Below.refl _ _⟩
  case round =>
    clear hdz
    obtain ⟨q, hq, rfl, hown, hbl⟩ := hrel
    have Hown := Lib.hid hown
    obtain ⟨A8, c8, rfl, hri8, -⟩ := OwnI.form hown
    clear hown
    by_cases hqf : q < fw.length
    case pos =>
      obtain ⟨b5, o5, rfl, hc5⟩ := (hrf7.below hbl).at_ hqf
      obtain ⟨j, hj, hjn⟩ := Hrng2.out _ (List.getElem_mem hqf)
      obtain ⟨b6, o6, rfl, hc6⟩ := (h2.below hbl).rs.at_ hjn
      rw [hj] at hc5
      have hsn : dirL sm (fw.take (q + 1)) = dirL sm (fw.take q) ++ [sm[j]] := by
        unfold dirL
        rw [List.take_succ_eq_append_getElem hqf, List.map_append, hj]
        simp [List.getD, hjn]
      have hdl : (dirL sm (fw.take q)).length ≤ 1000000 := by rw [dir_len, List.length_take]; omega
      have Hsn := Lib.hid hsn
      have hj0 : (0 : Int) ≤ (j : Int) := by omega
      have hj1 : (j : Int) < (sm.length : Int) := by omega
      have hqf' : (q : Int) < (fw.length : Int) := by omega
      clear hsn hj hri8
      generalize sm[j] = y at *
      go_wp2_with (at_builtin; refine wpList_appI (by rfl) _ _ (by rfl) wr w7.heap.size _ (dirL sm (fw.take q)) y Hown.out (by rfl) (by rfl) hdl hbl.size ?_; intro v' w8 hown8 hb8 _)
      go_roundw
      case rel => exact ⟨q + 1, by omega, by go_num, by rw [Hsn.out]; exact hown8, hbl.trans hb8⟩
      case measure => simp [intOf]; omega
    case neg =>
    obtain rfl : q = fw.length := by omega
    rw [List.take_length] at hri8 Hown ⊢
    have h28 := h2.below hbl
    have hrf8 := hrf7.below hbl
    have hbw8 := endB hbw7 hbl
    have c0r := h28.c0
    have hdasc := dir_asc Hasc.out Hasc2.out Hrng2.out
    have hdrng := dir_rng Hrng.out Hrng2.out
    have hii := ind_ind Hasc.out Hasc2.out Hrng2.out l
    have hdl := dir_len sm fw
    have Hdasc := Lib.hid hdasc; have Hdrng := Lib.hid hdrng; have Hii := Lib.hid hii; have Hdl := Lib.hid hdl
    have hdn : (dirL sm fw).length ≤ 100 := by rw [hdl]; omega
    clear hdasc hdrng hii hdl h2 hrf7 hbw7 hbl Hown
    generalize dirL sm fw = dr at *
    obtain ⟨wo, hwo⟩ : ∃ wo, wo = wr := ⟨_, rfl⟩
    subst hwo
    go_wp2_with fail
    clear c0r
    go_loopw [9, 12] (fun t9 t wr => ∃ k : Nat, k ≤ n ∧ t = .int .i64 k ∧ OwnI wr wo.heap.size t9 (nodesB k fun _ => true) ∧ Below wo.heap.size wo wr) (fun _ t _ => n - (intOf t).toNat)
    case atStart => exact ⟨0, Nat.zero_le _, rfl, OwnI.nil _ _, Below.refl _ _⟩
    case round =>
      obtain ⟨k, hk, rfl, hown, hbl⟩ := hrel
      have Hown := Lib.hid hown
      obtain ⟨A9, c9, rfl, hri9, -⟩ := OwnI.form hown
      have hkl := nodesB_length k fun _ => true
      have c0r := (h28.below hbl).c0
      clear hown
      by_cases hkn : k < n
      case pos =>
        have hsn : (nodesB (k + 1) fun _ => true) = (nodesB k fun _ => true) ++ [(k : Int)] := by rw [nodesB_succ]; rfl
        have Hsn := Lib.hid hsn
        clear hsn hri9
        generalize (nodesB k fun _ => true) = nk at *
        go_wp2_with (at_builtin; refine wpList_appI (by rfl) _ _ (by rfl) wr wo.heap.size _ nk (k : Int) Hown.out (by rfl) (by rfl) (by omega) hbl.size ?_; intro v' w8 hown8 hb8 _)
        go_roundw
        case rel => exact ⟨k + 1, by omega, by go_num, by rw [Hsn.out]; exact hown8, hbl.trans hb8⟩
        case measure => simp [intOf]; omega
      case neg =>
      obtain rfl : n = k := by omega
      have h29 := h28.below hbl
      have hrf9 := hrf8.below hbl
      have hrd9 := hri8.below hbl
      have hbw9 := endB hbw8 hbl
      have heasc := nodesB_asc n fun _ => true
      have herng : ∀ x ∈ nodesB n fun _ => true, ∃ j : Nat, x = j ∧ j < n := fun x hx => by
        obtain ⟨j, hj, _, e⟩ := mem_nodesB.1 hx
        exact ⟨j, e, hj⟩
      have hie := ind_every HV.out.1
      have hel : (nodesB n fun _ => true).length = n := by unfold nodesB; rw [List.filter_eq_self.2 (fun _ _ => rfl)]; simp
      have Heasc := Lib.hid heasc; have Herng := Lib.hid herng; have Hie := Lib.hid hie; have Hel := Lib.hid hel
      clear heasc herng hie hel h28 hrf8 hri8 hbw8 hbl Hown
      generalize (nodesB n fun _ => true) = ev at *
      go_wp2_with fail
      clear c0r
      obtain ⟨wz, hwz⟩ : ∃ wz, wz = wr := ⟨_, rfl⟩
      subst hwz
      have hrs9 := h29.rs
      have Hs9 := Lib.hid h29
      clear h29
      go_loopw [68] (fun t wr => ∃ q : Nat, q ≤ sm.length ∧ t = .int .i64 q ∧ Below wz.heap.size wz wr) (fun t _ => sm.length - (intOf t).toNat)
      case atStart => exact ⟨0, Nat.zero_le _, rfl, Below.refl _ _⟩
      case round =>
        obtain ⟨q, hq, rfl, hbl⟩ := hrel
        by_cases hqs : q < sm.length
        case pos =>
          obtain ⟨b5, o5, rfl, hc5⟩ := (hrs9.below hbl).at_ hqs
          have hqs' : (q : Int) < (sm.length : Int) := by omega
          have hhas := fun k (hk : k < sm.length) => has_ind Hasc.out (l := l) hqs hk
          have Hhas := Lib.hid hhas
          clear hhas
          generalize sm[q] = a at *
          obtain ⟨wi, hwi⟩ : ∃ wi, wi = wr := ⟨_, rfl⟩
          subst hwi
          go_wp2_with fail
          clear hc5
          go_loopw [75] (fun t wr => ∃ k : Nat, k ≤ sm.length ∧ t = .int .i64 k ∧ Below wi.heap.size wi wr) (fun t _ => sm.length - (intOf t).toNat)
          case atStart => exact ⟨0, Nat.zero_le _, rfl, Below.refl _ _⟩
          case round =>
            obtain ⟨k, hk, rfl, hbk⟩ := hrel
            by_cases hks : k < sm.length
            case pos =>
              obtain ⟨b6, o6, hA6, hc6⟩ := ((hrs9.below hbl).below hbk).at_ hks
              injection hA6 with hA6
              injection hA6 with hA6 hA7 _
              subst hA6 hA7
              have hks' : (k : Int) < (sm.length : Int) := by omega
              have hh := Hhas.out k hks
              have Hs := Lib.hid (((Hs9.out).below hbl).below hbk)
              generalize sm[k] = b at *
              obtain ⟨r, hr⟩ : ∃ r, hasB l a b = r := ⟨_, rfl⟩
              rw [hr] at hh
              have Hh := Lib.hid hh; have Hr := Lib.hid hr
              clear hh hr
              have hrr : (r != r) = false := by simp
              obtain ⟨wj, hwj⟩ : ∃ wj, wj = wr := ⟨_, rfl⟩
              subst hwj
              go_upto_region 24 with fail
              clear hc6
              refine wp_region_textB [3, 7] (SB wj) (RIs []) (by kernel_rfl) (by kernel_rfl) (by kernel_rfl) (Below.refl _ _).drew (RIs.nil _) ?_
              repeat (first
                | (refine TxtBL.skip (by rfl) ?_; simp only [Act.put, List.setIfInBounds_toArray, List.set_cons_zero, List.set_cons_succ])
                | (refine TxtBL.take (by rfl) (by rfl) ?_; apply Exists.intro; refine ⟨fun w1 hS1 => ?_, ?_⟩; (focus ((have h1 := (Hs.out.below hS1)); (have g0 := h1.c0); (have g1 := h1.c1); (have g2 := h1.e0); (have g3 := h1.e1); clear h1; go_simp; with_reducible rfl)); simp only [Act.put, List.setIfInBounds_toArray, List.set_cons_zero, List.set_cons_succ])
                | (refine TxtBL.takeE (by rfl) (by rfl) ?_; apply Exists.intro; refine ⟨fun w1 hS1 => ?_, ?_⟩; (focus ((have h1 := (Hs.out.below hS1)); (have g0 := h1.c0); (have g1 := h1.c1); (have g2 := h1.e0); (have g3 := h1.e1); clear h1; go_simp; with_reducible rfl)); simp only [Act.put, List.setIfInBounds_toArray, List.set_cons_zero, List.set_cons_succ]))
              refine TxtBL.callB (by rfl) (by rfl) ?_
              apply Exists.intro; apply Exists.intro
              refine ⟨fun w1 hS1 => ?_, ?_⟩
              focus (go_simp; first | with_reducible rfl | exact ⟨rfl, rfl⟩)
              refine ⟨.bool r, fun w1 hS1 hJ1 => ?_, ?_⟩
              · have h := hasV_any HVH.out A2 c2 (q : Int) (k : Int) w1 ((Hs.out).below hS1).rv
                rw [Hh.out] at h
                exact h
              simp only [Act.put, List.setIfInBounds_toArray, List.set_cons_zero, List.set_cons_succ]
              repeat (first
                | (refine TxtBL.skip (by rfl) ?_; simp only [Act.put, List.setIfInBounds_toArray, List.set_cons_zero, List.set_cons_succ])
                | (refine TxtBL.take (by rfl) (by rfl) ?_; apply Exists.intro; refine ⟨fun w1 hS1 => ?_, ?_⟩; (focus ((have h1 := (Hs.out.below hS1)); (have g0 := h1.c0); (have g1 := h1.c1); (have g2 := h1.e0); (have g3 := h1.e1); clear h1; go_simp; with_reducible rfl)); simp only [Act.put, List.setIfInBounds_toArray, List.set_cons_zero, List.set_cons_succ])
                | (refine TxtBL.takeE (by rfl) (by rfl) ?_; apply Exists.intro; refine ⟨fun w1 hS1 => ?_, ?_⟩; (focus ((have h1 := (Hs.out.below hS1)); (have g0 := h1.c0); (have g1 := h1.c1); (have g2 := h1.e0); (have g3 := h1.e1); clear h1; go_simp; with_reducible rfl)); simp only [Act.put, List.setIfInBounds_toArray, List.set_cons_zero, List.set_cons_succ]))
              refine TxtBL.callB (by rfl) (by rfl) ?_
              apply Exists.intro; apply Exists.intro
              refine ⟨fun w1 hS1 => ?_, ?_⟩
              focus (go_simp; first | with_reducible rfl | exact ⟨rfl, rfl⟩)
              refine ⟨.bool r, fun w1 hS1 hJ1 => ?_, ?_⟩
              · have h := hasV_any HV.out AL cl a b w1 ((Hs.out).below hS1).rl
                rw [Hr.out] at h
                exact h
              simp only [Act.put, List.setIfInBounds_toArray, List.set_cons_zero, List.set_cons_succ]
              repeat (first
                | (refine TxtBL.skip (by rfl) ?_; simp only [Act.put, List.setIfInBounds_toArray, List.set_cons_zero, List.set_cons_succ])
                | (refine TxtBL.take (by rfl) (by rfl) ?_; apply Exists.intro; refine ⟨fun w1 hS1 => ?_, ?_⟩; (focus (skip; go_simp; with_reducible rfl)); simp only [Act.put, List.setIfInBounds_toArray, List.set_cons_zero, List.set_cons_succ])
                | (refine TxtBL.takeE (by rfl) (by rfl) ?_; apply Exists.intro; refine ⟨fun w1 hS1 => ?_, ?_⟩; (focus (skip; go_simp; with_reducible rfl)); simp only [Act.put, List.setIfInBounds_toArray, List.set_cons_zero, List.set_cons_succ]))
              refine TxtBL.nil (fun W7 hS7 _ => ?_)
              have hbk7 := endB hbk hS7
              clear Hs hS7 hrr
              go_wp2_with fail
              go_roundw
              case rel => exact ⟨k + 1, by omega, by go_num, hbk7⟩
              case measure => simp [intOf]; omega
            case neg =>
              have hbq := endB hbl hbk
              go_wp2_with fail
              go_roundw
              case rel => exact ⟨q + 1, by omega, by go_num, hbq⟩
              case measure => simp [intOf]; omega
        case neg =>
          have Hs := Lib.hid ((Hs9.out).below hbl)
          have hbw := endB hbw9 hbl
          have hrf := hrf9.below hbl
          have hrd := hrd9.below hbl
          have hre := (hri9.below hbl)
          have hevn : ev.length ≤ 100000 := by rw [Hel.out]; omega
          obtain ⟨wj, hwj⟩ : ∃ wj, wj = wr := ⟨_, rfl⟩
          subst hwj
          have hipl := indP_len dr l
          have hipe := indP_len ev l
          go_upto_region 28 with fail
          refine wp_region_textB [2, 5, 6, 7, 10, 12, 13, 14, 15] (SB wj) (fun _ => True) (by kernel_rfl) (by kernel_rfl) (by kernel_rfl) (Below.refl _ _).drew trivial ?_
          repeat (first
            | (refine TxtBL.skip (by rfl) ?_; simp only [Act.put, List.setIfInBounds_toArray, List.set_cons_zero, List.set_cons_succ])
            | (refine TxtBL.take (by rfl) (by rfl) ?_; apply Exists.intro; refine ⟨fun w1 hS1 => ?_, ?_⟩; (focus ((have h1 := (Hs.out.below hS1)); (have g0 := h1.c0); (have g1 := h1.c1); (have g2 := h1.e0); (have g3 := h1.e1); clear h1; go_simp; with_reducible rfl)); simp only [Act.put, List.setIfInBounds_toArray, List.set_cons_zero, List.set_cons_succ])
            | (refine TxtBL.takeE (by rfl) (by rfl) ?_; apply Exists.intro; refine ⟨fun w1 hS1 => ?_, ?_⟩; (focus ((have h1 := (Hs.out.below hS1)); (have g0 := h1.c0); (have g1 := h1.c1); (have g2 := h1.e0); (have g3 := h1.e1); clear h1; go_simp; with_reducible rfl)); simp only [Act.put, List.setIfInBounds_toArray, List.set_cons_zero, List.set_cons_succ]))
          refine TxtBL.call (f := 18) (args := #[.agg #[.int .i64 (sm.length : Nat), .slice A2 (indP sm l).length c2], .slice AF fw.length cF]) (fun v => ∃ A c, v = .agg #[.int .i64 (fw.length : Nat), .slice A (indP fw (indP sm l)).length c]) (fun v w' => ∀ A c, v = .agg #[.int .i64 (fw.length : Nat), .slice A (indP fw (indP sm l)).length c] → RP w' A (indP fw (indP sm l))) (by rfl) (by rfl) ⟨_, none, 0, rfl⟩ (fun w1 hS1 hJ1 => by go_simp) (fun w1 hS1 hJ1 => ?_) ?_
          · refine (indV_any HVH.out Hasc2.out Hrng2.out A2 AF c2 cF w1 ((Hs.out).below hS1).rv (hrf.below hS1) (by omega)).mono ?_
            rintro e w' ⟨A5, c5, rfl, hr5, -, hb5⟩
            refine ⟨_, rfl, hS1.trans (hb5.mono hS1.size), ⟨A5, c5, rfl⟩, fun A c e => ?_⟩
            injection e with e; simp at e; rw [← e.1]; exact hr5
          rintro v ⟨A5, c5, rfl⟩
          rw [Hii.out]
          simp only [Act.put, List.setIfInBounds_toArray, List.set_cons_zero, List.set_cons_succ]
          repeat (first
            | (refine TxtBL.skip (by rfl) ?_; simp only [Act.put, List.setIfInBounds_toArray, List.set_cons_zero, List.set_cons_succ])
            | (refine TxtBL.take (by rfl) (by rfl) ?_; apply Exists.intro; refine ⟨fun w1 hS1 => ?_, ?_⟩; (focus ((have h1 := (Hs.out.below hS1)); (have g0 := h1.c0); (have g1 := h1.c1); (have g2 := h1.e0); (have g3 := h1.e1); clear h1; go_simp; with_reducible rfl)); simp only [Act.put, List.setIfInBounds_toArray, List.set_cons_zero, List.set_cons_succ])
            | (refine TxtBL.takeE (by rfl) (by rfl) ?_; apply Exists.intro; refine ⟨fun w1 hS1 => ?_, ?_⟩; (focus ((have h1 := (Hs.out.below hS1)); (have g0 := h1.c0); (have g1 := h1.c1); (have g2 := h1.e0); (have g3 := h1.e1); clear h1; go_simp; with_reducible rfl)); simp only [Act.put, List.setIfInBounds_toArray, List.set_cons_zero, List.set_cons_succ]))
          refine TxtBL.call (f := 18) (args := #[.agg #[.int .i64 (n : Int), .slice AL l.length cl], .slice A8 dr.length c8]) (fun v => ∃ A c, v = .agg #[.int .i64 (dr.length : Nat), .slice A (indP dr l).length c]) (fun v w' => RP w' A5 (indP dr l) ∧ ∀ A c, v = .agg #[.int .i64 (dr.length : Nat), .slice A (indP dr l).length c] → RP w' A (indP dr l)) (by rfl) (by rfl) ⟨_, none, 0, rfl⟩ (fun w1 hS1 hJ1 => by go_simp) (fun w1 hS1 hJ1 => ?_) ?_
          · refine (indV_any HV.out Hdasc.out Hdrng.out AL A8 cl c8 w1 ((Hs.out).below hS1).rl (hrd.below hS1) (by omega)).mono ?_
            rintro e w' ⟨A6, c6, rfl, hr6, -, hb6⟩
            refine ⟨_, rfl, hS1.trans (hb6.mono hS1.size), ⟨A6, c6, rfl⟩, (hJ1 A5 c5 rfl).below hb6, fun A c e => ?_⟩
            injection e with e; simp at e; rw [← e.1]; exact hr6
          rintro v ⟨A6, c6, rfl⟩
          simp only [Act.put, List.setIfInBounds_toArray, List.set_cons_zero, List.set_cons_succ]
          repeat (first
            | (refine TxtBL.skip (by rfl) ?_; simp only [Act.put, List.setIfInBounds_toArray, List.set_cons_zero, List.set_cons_succ])
            | (refine TxtBL.take (by rfl) (by rfl) ?_; apply Exists.intro; refine ⟨fun w1 hS1 => ?_, ?_⟩; (focus ((have h1 := (Hs.out.below hS1)); (have g0 := h1.c0); (have g1 := h1.c1); (have g2 := h1.e0); (have g3 := h1.e1); clear h1; go_simp; with_reducible rfl)); simp only [Act.put, List.setIfInBounds_toArray, List.set_cons_zero, List.set_cons_succ])
            | (refine TxtBL.takeE (by rfl) (by rfl) ?_; apply Exists.intro; refine ⟨fun w1 hS1 => ?_, ?_⟩; (focus ((have h1 := (Hs.out.below hS1)); (have g0 := h1.c0); (have g1 := h1.c1); (have g2 := h1.e0); (have g3 := h1.e1); clear h1; go_simp; with_reducible rfl)); simp only [Act.put, List.setIfInBounds_toArray, List.set_cons_zero, List.set_cons_succ]))
          refine TxtBL.call (f := 17) (args := #[.agg #[.int .i64 (fw.length : Nat), .slice A5 (indP dr l).length c5], .agg #[.int .i64 (dr.length : Nat), .slice A6 (indP dr l).length c6]]) (fun v => v = .bool true) (fun _ _ => True) (by rfl) (by rfl) ⟨_, rfl⟩ (fun w1 hS1 hJ1 => by go_simp) (fun w1 hS1 hJ1 => ?_) ?_
          · have h := r10Same_any A5 A6 (fw.length : Nat) (dr.length : Nat) (indP dr l) (indP dr l) c5 c6 w1 hJ1.1 (hJ1.2 _ _ rfl) (by omega) (by omega)
            rw [show sameB (fw.length : Nat) (indP dr l) (dr.length : Nat) (indP dr l) = true from sameB_iff.2 ⟨by rw [Hdl.out], rfl⟩] at h
            refine h.mono ?_
            rintro e w' ⟨rfl, hb5⟩
            exact ⟨_, rfl, hS1.trans (hb5.mono hS1.size), rfl, trivial⟩
          rintro v rfl
          simp only [Act.put, List.setIfInBounds_toArray, List.set_cons_zero, List.set_cons_succ]
          repeat (first
            | (refine TxtBL.skip (by rfl) ?_; simp only [Act.put, List.setIfInBounds_toArray, List.set_cons_zero, List.set_cons_succ])
            | (refine TxtBL.take (by rfl) (by rfl) ?_; apply Exists.intro; refine ⟨fun w1 hS1 => ?_, ?_⟩; (focus ((have h1 := (Hs.out.below hS1)); (have g0 := h1.c0); (have g1 := h1.c1); (have g2 := h1.e0); (have g3 := h1.e1); clear h1; go_simp; with_reducible rfl)); simp only [Act.put, List.setIfInBounds_toArray, List.set_cons_zero, List.set_cons_succ])
            | (refine TxtBL.takeE (by rfl) (by rfl) ?_; apply Exists.intro; refine ⟨fun w1 hS1 => ?_, ?_⟩; (focus ((have h1 := (Hs.out.below hS1)); (have g0 := h1.c0); (have g1 := h1.c1); (have g2 := h1.e0); (have g3 := h1.e1); clear h1; go_simp; with_reducible rfl)); simp only [Act.put, List.setIfInBounds_toArray, List.set_cons_zero, List.set_cons_succ]))
          refine TxtBL.call (f := 18) (args := #[.agg #[.int .i64 (n : Int), .slice AL l.length cl], .slice A9 ev.length c9]) (fun v => ∃ A c, v = .agg #[.int .i64 (ev.length : Nat), .slice A (indP ev l).length c]) (fun v w' => ∀ A c, v = .agg #[.int .i64 (ev.length : Nat), .slice A (indP ev l).length c] → RP w' A (indP ev l)) (by rfl) (by rfl) ⟨_, none, 0, rfl⟩ (fun w1 hS1 hJ1 => by go_simp) (fun w1 hS1 hJ1 => ?_) ?_
          · refine (indV_any HV.out Heasc.out Herng.out AL A9 cl c9 w1 ((Hs.out).below hS1).rl (hre.below hS1) (by omega)).mono ?_
            rintro e w' ⟨A7, c7, rfl, hr7, -, hb7⟩
            refine ⟨_, rfl, hS1.trans (hb7.mono hS1.size), ⟨A7, c7, rfl⟩, fun A c e => ?_⟩
            injection e with e; simp at e; rw [← e.1]; exact hr7
          rintro v ⟨A7, c7, rfl⟩
          simp only [Act.put, List.setIfInBounds_toArray, List.set_cons_zero, List.set_cons_succ]
          repeat (first
            | (refine TxtBL.skip (by rfl) ?_; simp only [Act.put, List.setIfInBounds_toArray, List.set_cons_zero, List.set_cons_succ])
            | (refine TxtBL.take (by rfl) (by rfl) ?_; apply Exists.intro; refine ⟨fun w1 hS1 => ?_, ?_⟩; (focus ((have h1 := (Hs.out.below hS1)); (have g0 := h1.c0); (have g1 := h1.c1); (have g2 := h1.e0); (have g3 := h1.e1); clear h1; go_simp; with_reducible rfl)); simp only [Act.put, List.setIfInBounds_toArray, List.set_cons_zero, List.set_cons_succ])
            | (refine TxtBL.takeE (by rfl) (by rfl) ?_; apply Exists.intro; refine ⟨fun w1 hS1 => ?_, ?_⟩; (focus ((have h1 := (Hs.out.below hS1)); (have g0 := h1.c0); (have g1 := h1.c1); (have g2 := h1.e0); (have g3 := h1.e1); clear h1; go_simp; with_reducible rfl)); simp only [Act.put, List.setIfInBounds_toArray, List.set_cons_zero, List.set_cons_succ]))
          refine TxtBL.call (f := 17) (args := #[.agg #[.int .i64 (ev.length : Nat), .slice A7 (indP ev l).length c7], .agg #[.int .i64 (n : Int), .slice AL l.length cl]]) (fun v => v = .bool true) (fun _ _ => True) (by rfl) (by rfl) ⟨_, rfl⟩ (fun w1 hS1 hJ1 => by go_simp) (fun w1 hS1 hJ1 => ?_) ?_
          · have h := r10Same_any A7 AL (ev.length : Nat) (n : Int) (indP ev l) l c7 cl w1 (hJ1 _ _ rfl) ((Hs.out).below hS1).rl (by omega) hlen
            rw [show sameB (ev.length : Nat) (indP ev l) (n : Int) l = true from sameB_iff.2 ⟨by rw [Hel.out], Hie.out⟩] at h
            refine h.mono ?_
            rintro e w' ⟨rfl, hb5⟩
            exact ⟨_, rfl, hS1.trans (hb5.mono hS1.size), rfl, trivial⟩
          rintro v rfl
          simp only [Act.put, List.setIfInBounds_toArray, List.set_cons_zero, List.set_cons_succ]
          repeat (first
            | (refine TxtBL.skip (by rfl) ?_; simp only [Act.put, List.setIfInBounds_toArray, List.set_cons_zero, List.set_cons_succ])
            | (refine TxtBL.take (by rfl) (by rfl) ?_; apply Exists.intro; refine ⟨fun w1 hS1 => ?_, ?_⟩; (focus (skip; go_simp; with_reducible rfl)); simp only [Act.put, List.setIfInBounds_toArray, List.set_cons_zero, List.set_cons_succ])
            | (refine TxtBL.takeE (by rfl) (by rfl) ?_; apply Exists.intro; refine ⟨fun w1 hS1 => ?_, ?_⟩; (focus (skip; go_simp; with_reducible rfl)); simp only [Act.put, List.setIfInBounds_toArray, List.set_cons_zero, List.set_cons_succ]))
          refine TxtBL.call (f := 22) (args := #[]) (fun v => v = .bool true) (fun _ _ => True) (by rfl) (by rfl) ⟨_, rfl⟩ (fun w1 hS1 hJ1 => by go_simp) (fun w1 hS1 hJ1 => ?_) ?_
          · refine (awake10_any w1 ((Hs.out).below hS1).tab).mono ?_
            rintro e w' ⟨rfl, hb5⟩
            exact ⟨_, rfl, hS1.trans (hb5.mono hS1.size), rfl, trivial⟩
          rintro v rfl
          simp only [Act.put, List.setIfInBounds_toArray, List.set_cons_zero, List.set_cons_succ]
          repeat (first
            | (refine TxtBL.skip (by rfl) ?_; simp only [Act.put, List.setIfInBounds_toArray, List.set_cons_zero, List.set_cons_succ])
            | (refine TxtBL.take (by rfl) (by rfl) ?_; apply Exists.intro; refine ⟨fun w1 hS1 => ?_, ?_⟩; (focus (skip; go_simp; with_reducible rfl)); simp only [Act.put, List.setIfInBounds_toArray, List.set_cons_zero, List.set_cons_succ])
            | (refine TxtBL.takeE (by rfl) (by rfl) ?_; apply Exists.intro; refine ⟨fun w1 hS1 => ?_, ?_⟩; (focus (skip; go_simp; with_reducible rfl)); simp only [Act.put, List.setIfInBounds_toArray, List.set_cons_zero, List.set_cons_succ]))
          refine TxtBL.nil (fun W7 hS7 _ => ?_)
          have hbf := endB hbw hS7
          clear Hs hS7
          go_wp2_with fail
          go_ret
          exact ⟨rfl, hbf⟩
end Go.Proofs.YtkflanjlnbdkmaaDoor
