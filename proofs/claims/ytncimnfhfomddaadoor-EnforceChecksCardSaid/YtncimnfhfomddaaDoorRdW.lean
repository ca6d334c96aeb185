import Derived.Test.YtncimnfhfomddaaDoorRtW
import Derived.Test.YtncimnfhfomddaaDoorEnL
/- net.Set, net.Stable; ref21: possible, Acceptable. -/
namespace Go.Proofs.YtncimnfhfomddaaDoor
open Go.ChangeShapes Go.WideShapes Go.ChangeAt Go.RowKit

/-- one element fits -/
def stepB (N : Int) (s : List Int) (k : Nat) : Bool := decide ((0 ≤ s.getD k 0 ∧ s.getD k 0 < N) ∧ (0 < k → s.getD (k - 1) 0 < s.getD k 0))
theorem setB_bad {N : Int} {s : List Int} {k : Nat} (h : k < s.length) (hx : stepB N s k = false) : setB N s = false := setB_miss h (of_decide_eq_false hx)
set_option maxRecDepth 100000 in
set_option maxHeartbeats 2000000 in
theorem nwSet_any (A : Option Addr) (N : Int) (G : List (Int × Int)) (c : Nat) (B : Option Addr) (s : List Int) (cs : Nat) (w : World) (hs : RI w B s) (hl : s.length ≤ 100000) :
    Calls Tryd.prog 93 #[.agg #[.int .i64 N, .slice A G.length c], .slice B s.length cs] w (RetB (.bool (setB N s)) w) := by
  go_enter Tryd.func93, Tryd.ntmps93
  go_upto_region 1 with fail
  obtain ⟨W0, hW, c0, c1, hb0, hlt0⟩ := boxed w 24 (.int .i64 N) (.slice A G.length c)
  rw [hW]
  have Hs0 := Lib.hid (hs.below hb0)
  clear hW hs
  go_wp2_with fail
  go_loopw [5] (fun t7 wx => ∃ k : Nat, k ≤ s.length ∧ t7 = .int .i64 (k : Int) ∧ (∀ j, j < k → stepB N s j = true) ∧ Below W0.heap.size W0 wx) (fun t7 _ => s.length - (intOf t7).toNat)
  case atStart => exact ⟨0, Nat.zero_le _, rfl, (fun j hj => absurd hj (Nat.not_lt_zero j)), Below.refl _ _⟩
  case round =>
    obtain ⟨k, hk, rfl, hall, hbr⟩ := hrel
    have Hall := Lib.hid hall
    have d0 := (hbr.cell (lt_of_cell c0)).trans c0
    have hs1 := Hs0.out.below hbr
    clear hall
    by_cases hlt : k < s.length
    case neg =>
      go_wp2_with fail
      go_ret
      exact ⟨rb ((setB_iff _ _).2 (fun j hj => of_decide_eq_true (Hall.out j (by omega)))).symm, endB hb0 hbr⟩
    case pos =>
    obtain ⟨b, o, rfl, hc⟩ := hs1.at_ hlt
    have hg : s.getD k 0 = s[k] := by simp [List.getD, hlt]
    go_upto_region 4 with fail
    go_cut [41] (fun v wx => v = .bool (!stepB N s k) ∧ Below W0.heap.size W0 wx)
    case first =>
      by_cases h1 : s[k] < 0
      · have hd : decide (s[k] < 0) = true := decide_eq_true h1
        have hS : stepB N s k = false := decide_eq_false (fun h => by have := h.1.1; rw [hg] at this; omega)
        have HS := Lib.hid hS
        clear hS
        clear h1 hg
        go_quiet (fail)
        go_wp2_with fail
        go_meet
        exact ⟨by rw [HS.out]; rfl, below_drewN hbr nq⟩
      · have hd : decide (s[k] < 0) = false := decide_eq_false h1
        by_cases h2 : N ≤ s[k]
        · have hd2 : decide (N ≤ s[k]) = true := decide_eq_true h2
          have hS : stepB N s k = false := decide_eq_false (fun h => by have := h.1.2; rw [hg] at this; omega)
          have HS := Lib.hid hS
          clear hS
          clear h1 h2 hg
          go_quiet (fail)
          go_wp2_with fail
          go_meet
          exact ⟨by rw [HS.out]; rfl, below_drewN hbr nq⟩
        · have hd2 : decide (N ≤ s[k]) = false := decide_eq_false h2
          by_cases h3 : 0 < k
          · obtain ⟨j, hj⟩ : ∃ j, k = j + 1 := ⟨k - 1, by omega⟩
            subst hj
            have hjl : j < s.length := by omega
            obtain ⟨b', o', hA, hc'⟩ := hs1.at_ hjl
            injection hA with hA
            injection hA with hb ho
            subst hb ho
            have hg2 : s.getD j 0 = s[j] := by simp [List.getD, hjl]
            have hd3 : decide ((0 : Int) < ((j + 1 : Nat) : Int)) = true := decide_eq_true (by omega)
            have e1 : wrap64 (((j + 1 : Nat) : Int) - 1) = (j : Int) := by unfold wrap64; omega
            by_cases h4 : s[j + 1] ≤ s[j]
            · have hd4 : decide (s[j + 1] ≤ s[j]) = true := decide_eq_true h4
              have hS : stepB N s (j + 1) = false := decide_eq_false (fun h => by have := h.2 (by omega); rw [hg, Nat.add_sub_cancel, hg2] at this; omega)
              have HS := Lib.hid hS
              clear hS
              clear h1 h2 h4 hg hg2
              go_quiet (fail)
              go_wp2_with fail
              go_meet
              exact ⟨by rw [HS.out]; rfl, below_drewN hbr nq⟩
            · have hd4 : decide (s[j + 1] ≤ s[j]) = false := decide_eq_false h4
              have hS : stepB N s (j + 1) = true := decide_eq_true ⟨by rw [hg]; omega, fun _ => by rw [hg, Nat.add_sub_cancel, hg2]; omega⟩
              have HS := Lib.hid hS
              clear hS
              clear h1 h2 h4 hg hg2
              go_quiet (fail)
              go_wp2_with fail
              go_meet
              exact ⟨by rw [HS.out]; rfl, below_drewN hbr nq⟩
          · obtain rfl : k = 0 := by omega
            have hc0 : wr.cell? ⟨b, o, none⟩ = some (.int .i64 s[0]) := by simpa using hc
            have hS : stepB N s 0 = true := decide_eq_true ⟨by rw [hg]; omega, fun h => absurd h (by omega)⟩
            have HS := Lib.hid hS
            clear hS
            clear h1 h2 hg
            go_quiet (fail)
            go_wp2_with fail
            go_meet
            exact ⟨by rw [HS.out]; rfl, below_drewN hbr nq⟩
    obtain ⟨rfl, hb2⟩ := hcut
    clear hc d0 hbr
    cases hS : stepB N s k
    · have HS := Lib.hid (setB_bad hlt hS)
      clear hS
      go_wp2_with fail
      go_ret
      exact ⟨rb HS.out.symm, endB hb0 hb2⟩
    · have HS := Lib.hid hS
      clear hS
      go_wp2_with fail
      go_roundw
      case rel => exact ⟨k + 1, by omega, by go_num, (fun j hj => by rcases Nat.lt_succ_iff_lt_or_eq.1 hj with h | rfl; exact Hall.out j h; exact HS.out), hb2⟩
      case measure => simp [intOf]; omega
set_option maxRecDepth 100000 in
set_option maxHeartbeats 4000000 in
theorem nwStb_any (A : Option Addr) (n : Nat) (l : List (Int × Int)) (c : Nat) (B : Option Addr) (s : List Int) (cs : Nat) (w : World) (hr : RP w A l) (hlen : l.length ≤ 100000) (hs : RI w B s) (hl : s.length ≤ 100000) (hn : n ≤ 100000) :
    Calls Tryd.prog 71 #[.agg #[.int .i64 (n : Int), .slice A l.length c], .slice B s.length cs] w (RetB (.bool (stbB n l s)) w) := by
  go_enter Tryd.func71, Tryd.ntmps71
  go_upto_region 1 with fail
  obtain ⟨W0, hW, c0, c1, hb0, hlt0⟩ := boxed w 24 (.int .i64 (n : Int)) (.slice A l.length c)
  rw [hW]
  have hr0 := hr.below hb0; have hs0 := hs.below hb0
  have Hr0 := Lib.hid hr0; have Hs0 := Lib.hid hs0
  clear hW hr hs hr0 hs0
  go_wp2_with fail
  go_loopw [5] (fun t7 wx => ∃ k : Nat, k ≤ n ∧ t7 = .int .i64 (k : Int) ∧ ((List.range k).all fun a => inB s (a : Int) || atkB l s (a : Int)) = true ∧ Below W0.heap.size W0 wx) (fun t7 _ => n - (intOf t7).toNat)
  case atStart => exact ⟨0, Nat.zero_le _, rfl, rfl, Below.refl _ _⟩
  case round =>
    obtain ⟨k, hk, rfl, hno, hbr⟩ := hrel
    have Hno := Lib.hid hno; have Hbr := Lib.hid hbr
    have d0 := (hbr.cell (lt_of_cell c0)).trans c0; have d1 := (hbr.cell (lt_of_cell c1)).trans c1
    have hr1 := Hr0.out.below hbr
    by_cases hlt : k < n
    case neg =>
      have hall : ((List.range n).all fun a => inB s (a : Int) || atkB l s (a : Int)) = true := by
        have e : k = n := by omega
        rw [← e]; exact Hno.out
      have Hall := Lib.hid hall
      clear hall
      have Hf := Lib.hid (nwFree_any A (n : Int) l c B s cs wr hr1 hlen (Hs0.out.below hbr) hl)
      clear hno hbr hr1
      go_wp2_with fail
      refine Hf.out.mono ?_
      rintro e w2 ⟨rfl, hb2⟩
      go_wp2_with fail
      go_ret
      exact ⟨rb (by unfold stbB; rw [Hall.out, Bool.true_and]), endB hb0 (Hbr.out.trans (hb2.mono Hbr.out.size))⟩
    case pos =>
    have hstp : ((List.range (k + 1)).all fun a => inB s (a : Int) || atkB l s (a : Int)) = (inB s (k : Int) || atkB l s (k : Int)) := by
      rw [List.range_succ, List.all_append, Hno.out]; simp
    have hbad : (inB s (k : Int) || atkB l s (k : Int)) = false → ((List.range n).all fun a => inB s (a : Int) || atkB l s (a : Int)) = false := fun h => by
      rw [Bool.eq_false_iff]; intro e
      have := List.all_eq_true.1 e _ (List.mem_range.2 hlt)
      rw [h] at this; cases this
    have hin := fun W (hW : Below wr.heap.size wr W) => nwIn_any B s cs (k : Int) W ((Hs0.out.below hbr).below hW) hl
    have Hatk := Lib.hid (fun W (hW : Below wr.heap.size wr W) => nwAtk_any A (n : Int) l c B s cs (k : Int) W ((Hr0.out.below hbr).below hW) hlen ((Hs0.out.below hbr).below hW) hl)
    obtain ⟨iy, hiy⟩ : ∃ iy, inB s (k : Int) = iy := ⟨_, rfl⟩
    obtain ⟨ay, hay⟩ : ∃ ay, atkB l s (k : Int) = ay := ⟨_, rfl⟩
    have hatk := Hatk.out
    rw [hiy] at hin hstp hbad
    rw [hay] at hatk hstp hbad
    have Hin := Lib.hid hin; have Hatk := Lib.hid hatk; have Hstp := Lib.hid hstp; have Hbad := Lib.hid hbad
    clear hno hr1 hbr hin hiy hatk hay hstp hbad
    obtain ⟨W1, hW1⟩ : ∃ W1, W1 = wr := ⟨_, rfl⟩
    subst hW1
    go_upto_region 4 with fail
    go_cut [22] (fun t32 wx => t32 = .bool (!iy && !ay) ∧ Below W1.heap.size W1 wx)
    case first =>
      go_wp2_with fail
      refine (Hin.out W1 (Below.refl _ _)).mono ?_
      rintro e w2 ⟨rfl, rfl⟩
      cases iy
      case true =>
        go_wp2_with fail
        go_meet
        exact ⟨rfl, Below.refl _ _⟩
      case false =>
        go_wp2_with fail
        refine (Hatk.out _ (Below.refl _ _)).mono ?_
        rintro e w3 ⟨rfl, hb3⟩
        go_wp2_with fail
        go_meet
        exact ⟨rfl, hb3⟩
    obtain ⟨rfl, hS2⟩ := hcut
    have Hb2 := Lib.hid (Hbr.out.trans (hS2.mono Hbr.out.size))
    clear hS2 Hin Hatk d0 d1
    cases hh : (!iy && !ay)
    · have Hh : RowKit.Hid ((iy || ay) = true) := Lib.hid (by revert hh; cases iy <;> cases ay <;> simp)
      clear hh
      go_wp2_with fail
      go_roundw
      case rel => exact ⟨k + 1, by omega, by go_num, by rw [Hstp.out]; exact Hh.out, Hb2.out⟩
      case measure => simp [intOf]; omega
    · have Hh : RowKit.Hid ((iy || ay) = false) := Lib.hid (by revert hh; cases iy <;> cases ay <;> simp)
      clear hh
      go_wp2_with fail
      go_ret
      exact ⟨rb (by unfold stbB; rw [Hbad.out Hh.out]; rfl), endB hb0 Hb2.out⟩
/-- what ref21.Acceptable says -/
def accR (n : Nat) (G : List (Int × Int)) (s : List Int) (kind : Int) : Bool := if kind = 2 then stbB n G s else admB G s
theorem accR_iff {n : Nat} {G : List (Int × Int)} {s : List Int} {kind : Int} (hv : InR n G) (hk : kind = 1 ∨ kind = 2) : accR n G s kind = true ↔ AccP n G s kind := by
  unfold accR
  rcases hk with rfl | rfl
  · rw [if_neg (by decide)]; exact adm_acc hv
  · rw [if_pos rfl]; exact stb_acc
theorem accR_eq {n : Nat} {G : List (Int × Int)} {s : List Int} {kind : Int} (hv : InR n G) (hs : setB n s = true) (hk : kind = 1 ∨ kind = 2) : accR n G s kind = acB n G s kind := by
  rw [Bool.eq_iff_iff, accR_iff hv hk, ac_acc hv hs hk]
set_option maxRecDepth 100000 in
set_option maxHeartbeats 1000000 in
theorem rAcc_any (A : Option Addr) (n : Nat) (G : List (Int × Int)) (c : Nat) (B : Option Addr) (s : List Int) (cs : Nat) (kind : Int) (w : World) (hr : RP w A G) (hlen : G.length ≤ 100000) (hs : RI w B s) (hl : s.length ≤ 100000) (hn : n ≤ 100000) :
    Calls Tryd.prog 32 #[.agg #[.int .i64 (n : Int), .slice A G.length c], .slice B s.length cs, .int .i64 kind] w (RetB (.bool (accR n G s kind)) w) := by
  obtain ⟨r, hre⟩ : ∃ r, accR n G s kind = r := ⟨_, rfl⟩
  rw [hre]
  unfold accR at hre
  go_enter Tryd.func32, Tryd.ntmps32
  go_upto_region 1 with fail
  obtain ⟨W0, hW, c0, c1, hb0, hlt0⟩ := boxed w 24 (.int .i64 (n : Int)) (.slice A G.length c)
  rw [hW]
  have h1 := nwStb_any A n G c B s cs W0 (hr.below hb0) hlen (hs.below hb0) hl hn
  have h2 := nwAdm_any A (n : Int) G c B s cs W0 (hr.below hb0) hlen (hs.below hb0) hl
  clear hW
  by_cases hk : kind = 2
  · rw [if_pos hk] at hre
    rw [hre] at h1
    have H1 := Lib.hid h1
    have hd : (kind == 2) = true := by simp [hk]
    clear h1 h2 hre hk
    go_wp2_with fail
    refine H1.out.mono ?_
    rintro e w2 ⟨rfl, hb2⟩
    go_wp2_with fail
    go_ret
    exact ⟨rfl, endB hb0 hb2⟩
  · rw [if_neg hk] at hre
    rw [hre] at h2
    have H2 := Lib.hid h2
    have hd : (kind == 2) = false := by simp [hk]
    clear h1 h2 hre hk
    go_wp2_with fail
    refine H2.out.mono ?_
    rintro e w2 ⟨rfl, hb2⟩
    go_wp2_with fail
    go_ret
    exact ⟨rfl, endB hb0 hb2⟩
set_option maxRecDepth 100000 in
set_option maxHeartbeats 2000000 in
theorem rPos_any (A : Option Addr) (N : Int) (G : List (Int × Int)) (c : Nat) (B : Option Addr) (s : List Int) (cs : Nat) (kind : Int) (w : World) (hr : RP w A G) (hl : G.length ≤ 100000) (hs : RI w B s) (hls : s.length ≤ 100000) :
    Calls Tryd.prog 46 #[.agg #[.int .i64 N, .slice A G.length c], .slice B s.length cs, .int .i64 kind] w (RetB (.int .i64 (arE N G s kind)) w) := by
  obtain ⟨r, hre⟩ : ∃ r, arE N G s kind = r := ⟨_, rfl⟩
  rw [hre]
  unfold arE at hre
  go_enter Tryd.func46, Tryd.ntmps46
  go_wp2_with fail
  obtain ⟨W0, hW, k0, hb0, hs0⟩ := boxG w N A G.length c
  rw [hW]
  clear hW
  refine (r10Validate_any _ _ _ _ _ (hr.below hb0) hl).mono ?_
  rintro e w1 ⟨rfl, hb⟩
  have hbb := endB hb0 hb
  have k01 := k0.below hb k0.lt
  obtain ⟨c0, c1, _, _⟩ := k01.two
  have hst := nwSet_any A N G c B s cs w1 (hs.below hbb) hls
  have Hst := Lib.hid hst
  clear k0 hb0 hb hst
  by_cases hv : valE N G = 0
  case neg =>
    have d : (valE N G != 0) = true := by simp [hv]
    rw [if_neg hv] at hre
    subst hre
    generalize valE N G = v at *
    clear hv
    go_wp2_with fail
    go_ret
    exact ⟨rfl, hbb⟩
  have d : (valE N G != 0) = false := by simp [hv]
  rw [if_pos hv] at hre
  generalize valE N G = v at *
  clear hv
  by_cases hk : kind = 1 ∨ kind = 2
  · rw [if_pos hk] at hre
    have h2 : (kind != 1) = false ∨ ((kind != 1) = true ∧ (kind != 2) = false) := by
      rcases hk with h | h
      · exact .inl (by simp [h])
      · exact .inr ⟨by simp [h], by simp [h]⟩
    clear hk
    have Hre := Lib.hid hre
    clear hre
    rcases h2 with d1 | ⟨d1, d2⟩
    all_goals
      go_wp2_with fail
      refine Hst.out.mono ?_
      rintro e w2 ⟨rfl, hb2⟩
      have hbb2 := endB hbb hb2
      have hre := Hre.out
      cases hsb : setB N s
      all_goals
        rw [hsb] at hre
        simp only [Bool.false_eq_true, if_true, if_false] at hre
        subst hre
        clear hsb
        go_wp2_with fail
        go_ret
        exact ⟨rfl, hbb2⟩
  · rw [if_neg hk] at hre
    subst hre
    have d1 : (kind != 1) = true := by simp; omega
    have d2 : (kind != 2) = true := by simp; omega
    clear hk
    go_wp2_with fail
    go_ret
    exact ⟨rfl, hbb⟩
end Go.Proofs.YtncimnfhfomddaaDoor
