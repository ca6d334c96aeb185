import Derived.Test.YtcpombepajapjaaGreatDoorExt
/- ref15: in, Some, All; keep.SmallLists. -/
namespace Go.Proofs.YtcpombepajapjaaGreatDoor
open Go.ChangeShapes Go.WideShapes Go.ChangeAt Go.RowKit

set_option maxHeartbeats 1000000 in
theorem r15In_any (A : Option Addr) (x : List Int) (c : Nat) (i : Int) (w : World) (hr : RI w A x) (_hl : x.length ≤ 100000) :
    Calls Tryz.prog 43 #[.slice A x.length c, .int .i64 i] w (Ret (.bool (atB x i)) w) := by
  by_cases h0 : 0 ≤ i
  case neg =>
    have hd : decide (0 ≤ i) = false := by rw [decide_eq_false_iff_not]; exact h0
    have hz : atB x i = false := by unfold atB; rw [hd]; rfl
    have Hz := Lib.hid hz; clear hz
    go_enter Tryz.func43, Tryz.ntmps43
    go_wp2_with fail
    go_ret
    exact ⟨rb (by rw [Hz.out]), rfl⟩
  case pos =>
  by_cases h1 : i < (x.length : Int)
  case neg =>
    have hd : decide (i < (x.length : Int)) = false := by rw [decide_eq_false_iff_not]; exact h1
    have hz : atB x i = false := by unfold atB; rw [hd, Bool.and_false]; rfl
    have Hz := Lib.hid hz; clear hz
    go_enter Tryz.func43, Tryz.ntmps43
    go_wp2_with fail
    go_ret
    exact ⟨rb (by rw [Hz.out]), rfl⟩
  case pos =>
  obtain ⟨k, rfl⟩ := Int.eq_ofNat_of_zero_le h0
  have hk : k < x.length := by omega
  have hz : atB x (k : Int) = (x[k] == 1) := by
    unfold atB
    rw [decide_eq_true h0, decide_eq_true h1, Int.toNat_natCast]
    simp [List.getD, hk]
  obtain ⟨b, o, rfl, hc⟩ := hr.at_ hk
  obtain ⟨y, hy⟩ : ∃ y, x[k] = y := ⟨_, rfl⟩
  rw [hy] at hc hz
  have Hz := Lib.hid hz; clear hz hy
  go_enter Tryz.func43, Tryz.ntmps43
  go_wp2_with fail
  go_ret
  exact ⟨rb (by rw [Hz.out]), rfl⟩


set_option maxRecDepth 100000 in
set_option maxHeartbeats 2000000 in
theorem r15All_any (A : Option Addr) (L : List (List Int)) (ca : Nat) (i : Int) (w : World) (hL : RS w A L) (hlL : L.length ≤ 100000) (hll : ∀ x ∈ L, x.length ≤ 1000) :
    Calls Tryz.prog 27 #[.slice A L.length ca, .int .i64 i] w (Ret (.bool (L.all fun x => atB x i)) w) := by
  have Hll := Lib.hid hll
  obtain ⟨R, hR⟩ : ∃ R, (L.all fun x => atB x i) = R := ⟨_, rfl⟩
  have hres : (!(L.any fun x => !atB x i)) = R := (show (!(L.any fun x => !atB x i)) = (L.all fun x => atB x i) by rw [List.not_any_eq_all_not]; simp).trans hR
  rw [hR]
  have Hres := Lib.hid hres
  clear hll hres hR
  go_enter Tryz.func27, Tryz.ntmps27
  go_wp2_with fail
  go_loop [5] (fun j => ∃ k : Nat, k ≤ L.length ∧ j = .int .i64 k ∧ (L.take k).any (fun x => !atB x i) = false) (fun j => L.length - (intOf j).toNat)
  case atStart => exact ⟨0, Nat.zero_le _, rfl, by simp⟩
  case round =>
    obtain ⟨k, hk, rfl, hi⟩ := hrel
    have Hi := Lib.hid hi; clear hi
    by_cases hlt : k < L.length
    case neg =>
      have hall : (L.any fun x => !atB x i) = false := by have := Hi.out; rwa [List.take_of_length_le (by omega)] at this
      have Hall := Lib.hid hall
      clear hall
      go_wp2_with fail
      go_ret
      exact ⟨rb (by rw [← Hres.out, Hall.out]; rfl), rfl⟩
    case pos =>
    have hlt' : (k : Int) < (L.length : Int) := by omega
    have hk0 : (0 : Int) ≤ (k : Int) := by omega
    obtain ⟨b, o, AX, cx, hA, hcell, hri⟩ := hL.at_ hlt
    subst hA
    have hstp := any_stepX (fun x => !atB x i) L hlt
    rw [Hi.out, Bool.false_or] at hstp
    have hlx := Hll.out _ (List.getElem_mem hlt)
    have hany : ∀ x, L[k] = x → (!atB x i) = true → (L.any fun x => !atB x i) = true := fun x e h => List.any_eq_true.2 ⟨x, e ▸ List.getElem_mem hlt, h⟩
    obtain ⟨x, hx⟩ : ∃ x, L[k] = x := ⟨_, rfl⟩
    rw [hx] at hcell hri hlx hstp
    have Hstp := Lib.hid hstp; have Hany := Lib.hid (hany x hx)
    have Hb := Lib.hid (r15In_any AX x cx i w hri (by omega))
    clear hstp hany hx
    go_wp2_with fail
    refine Hb.out.mono ?_
    rintro e w1 ⟨rfl, rfl⟩
    cases hp : atB x i
    · have Hp := Lib.hid hp; clear hp
      go_wp2_with fail
      go_ret
      exact ⟨rb (by rw [← Hres.out, Hany.out (by rw [Hp.out]; rfl)]; rfl), rfl⟩
    · have Hp := Lib.hid hp; clear hp
      go_wp2_with fail
      go_round
      case rel => exact ⟨k + 1, by omega, by go_num, by rw [Hstp.out, Hp.out]; rfl⟩
      case measure => simp [intOf]; omega

set_option maxHeartbeats 1000000 in
theorem r15Proper_any (A B : Option Addr) (a b : List Int) (ca cb : Nat) (w : World) (hn : a.length ≤ 100000) (hm : b.length ≤ 100000) (ha : RI w A a) (hb : RI w B b) :
    Calls Tryz.prog 35 #[.slice A a.length ca, .slice B b.length cb] w (Ret (.bool (withinB a b)) w) := by
  obtain ⟨R, hR⟩ : ∃ R, withinB a b = R := ⟨_, rfl⟩
  rw [hR]
  have HR := Lib.hid hR
  clear hR
  go_enter Tryz.func35, Tryz.ntmps35
  go_wp2_with fail
  go_loop [5] (fun i => ∃ k : Nat, k ≤ a.length ∧ i = .int .i64 k ∧ insideB (a.take k) b = true) (fun i => a.length - (intOf i).toNat)
  case atStart => exact ⟨0, Nat.zero_le _, rfl, by simp [insideB]⟩
  case round =>
    obtain ⟨k, hk, rfl, hi⟩ := hrel
    have Hi := Lib.hid hi; clear hi
    by_cases hlt : k < a.length
    case neg =>
      have hin : insideB a b = true := insideB_all hlt Hi.out
      have Hin := Lib.hid hin
      clear hin
      by_cases hab : a.length < b.length
      · have hd : decide ((a.length : Int) < (b.length : Int)) = true := by rw [decide_eq_true_iff]; omega
        have Hab := Lib.hid hab; clear hab
        go_wp2_with fail
        go_ret
        exact ⟨rb (by rw [← HR.out]; unfold withinB; rw [Hin.out, decide_eq_true Hab.out]; rfl), rfl⟩
      · have hd : decide ((a.length : Int) < (b.length : Int)) = false := by rw [decide_eq_false_iff_not]; omega
        have Hab := Lib.hid hab; clear hab
        go_wp2_with fail
        go_ret
        exact ⟨rb (by rw [← HR.out]; unfold withinB; rw [decide_eq_false Hab.out]; rfl), rfl⟩
    case pos =>
    have hlt' : (k : Int) < (a.length : Int) := by omega
    obtain ⟨bb, o, rfl, hc⟩ := ha.at_ hlt
    have hmiss : inB b a[k] = false → insideB a b = false := insideB_miss hlt
    have hstp : inB b a[k] = true → insideB (a.take (k + 1)) b = true := insideB_take_succ hlt Hi.out
    obtain ⟨y, hy⟩ : ∃ y, a[k] = y := ⟨_, rfl⟩
    rw [hy] at hc hmiss hstp
    have Hm := Lib.hid hmiss; have Hs := Lib.hid hstp
    have H := Lib.hid (r11In_any B b cb y w (by omega) hb)
    clear hmiss hstp hy
    go_wp2_with fail
    refine H.out.mono ?_
    rintro e w1 ⟨rfl, rfl⟩
    cases hp : inB b y
    · have Hp := Lib.hid hp; clear hp
      go_wp2_with fail
      go_ret
      exact ⟨rb (by rw [← HR.out]; unfold withinB; rw [Hm.out Hp.out, Bool.and_false]), rfl⟩
    · have Hp := Lib.hid hp; clear hp
      go_wp2_with fail
      go_round
      case rel => exact ⟨k + 1, by omega, by go_num, Hs.out Hp.out⟩
      case measure => simp [intOf]; omega
end Go.Proofs.YtcpombepajapjaaGreatDoor

/- ref15.Stable. -/
namespace Go.Proofs.YtcpombepajapjaaGreatDoor
open Go.ChangeShapes Go.WideShapes Go.ChangeAt Go.RowKit

theorem withL_ne {l : List Int} {x : Int} : 0 < (withL l x).length ↔ x ∈ l := by
  unfold withL
  rw [List.length_pos_iff_exists_mem]
  constructor
  · rintro ⟨z, hz⟩
    obtain ⟨i, hi, hp, rfl⟩ := mem_nodesB.1 hz
    have e : l.getD i 0 = l[i] := by simp [List.getD, hi]
    rw [e, beq_iff_eq] at hp
    rw [← hp]
    exact List.getElem_mem hi
  · intro h
    obtain ⟨i, hi, rfl⟩ := List.mem_iff_getElem.1 h
    exact ⟨(i : Int), mem_nodesB.2 ⟨i, hi, by simp [List.getD, hi], rfl⟩⟩
theorem stab_in (z x : List Int) : stabP z x = inB x 3 := by
  rw [Bool.eq_iff_iff, inB_iff]
  unfold stabP placesL
  rw [decide_eq_true_iff]
  simp only [List.flatMap_cons, List.flatMap_nil, List.append_nil]
  exact withL_ne
theorem stab_any {L : List (List Int)} {x : List Int} (hx : x ∈ L) : (L.any fun z => stabP z x) = inB x 3 := by
  rw [Bool.eq_iff_iff, List.any_eq_true]
  exact ⟨fun ⟨z, _, h⟩ => by rwa [stab_in] at h, fun h => ⟨x, hx, by rw [stab_in]; exact h⟩⟩

end Go.Proofs.YtcpombepajapjaaGreatDoor

/- ref15.Preferred, ref15.SemiStable. -/
namespace Go.Proofs.YtcpombepajapjaaGreatDoor
open Go.ChangeShapes Go.WideShapes Go.ChangeAt Go.RowKit

theorem all_stepX {α : Type} (p : α → Bool) (L : List α) {k : Nat} (h : k < L.length) : (L.take (k + 1)).all p = ((L.take k).all p && p L[k]) := by
  rw [List.take_succ_eq_append_getElem h, List.all_append]; simp
theorem places_one (l : List Int) (v : Int) : placesL l [v] = withL l v := by simp [placesL]

set_option maxRecDepth 100000 in
set_option maxHeartbeats 4000000 in
theorem r15Preferred_any (A : Option Addr) (N : Int) (l : List (Int × Int)) (c : Nat) (w : World) (hr : RP w A l) (hlen : l.length ≤ 100000) (hT : Tab w) :
    Calls Tryz.prog 20 #[.agg #[.int .i64 N, .slice A l.length c]] w (RetLE (bestR prefP N l) w) := by
  go_enter Tryz.func20, Tryz.ntmps20
  go_upto_region 1 with fail
  obtain ⟨W0, hW, d0, d1, hb0, hlt0⟩ := boxed w 24 (.int .i64 N) (.slice A l.length c)
  rw [hW]
  clear hW
  obtain ⟨C, hC⟩ : ∃ C, compR N l = C := ⟨_, rfl⟩
  have hcc := r14Complete_any A N l c W0 (hr.below hb0) hlen (hT.below hb0)
  obtain ⟨hs1, hs2⟩ := compR_sm N l
  have hbest : bestR prefP N l = if C.2 = 0 then (keptL prefP C.1, 0) else ([], C.2) := by unfold bestR; rw [hC]
  rw [hC] at hcc hs1 hs2
  have Hcc := Lib.hid hcc; have Hbest := Lib.hid hbest; have Hs2 := Lib.hid hs2
  clear hcc hbest hs2 hC
  obtain ⟨L, x⟩ := C
  have hs1' : L.length ≤ 200 := hs1
  clear hs1
  go_wp2_with fail
  refine Hcc.out.mono ?_
  rintro e W5 ⟨A5, c5, rfl, hr5, hn5, hb5⟩
  have hB5 := endB hb0 hb5
  have hr5' : RSo W5 A5 L := hr5
  have Hr5 := Lib.hid hr5'
  clear Hcc hr5 hr5' hn5 d0 d1
  by_cases hx0 : x = 0
  case neg =>
    have hxb : (x == 0) = false := beq_eq_false_iff_ne.2 hx0
    have hres : bestR prefP N l = ([], x) := by rw [Hbest.out]; exact if_neg hx0
    have Hres := Lib.hid hres
    clear hres
    go_wp2_with fail
    go_ret2
    rw [Hres.out]
    exact ⟨none, 0, rfl, RSo.nil _ _, fun _ => ⟨rfl, rfl⟩, hB5⟩
  case pos =>
  subst hx0
  have hres : bestR prefP N l = (keptL prefP L, 0) := by rw [Hbest.out]; exact if_pos rfl
  have Hres := Lib.hid hres
  clear hres Hbest
  go_wp2_with fail
  go_loopw [6, 7] (fun v i wr => ∃ (k : Nat) (xs : List Value), k ≤ L.length ∧ i = .int .i64 k ∧ OwnS wr W5.heap.size v xs ∧ OwnL W5 0 xs ((L.take k).filter fun x => !(L.any fun z => prefP z x)) ∧ Below W5.heap.size W5 wr) (fun _ i _ => L.length - (intOf i).toNat)
  case atStart => exact ⟨0, [], Nat.zero_le _, rfl, OwnS.nil _ _, OwnL.nil _ _, Below.refl _ _⟩
  case round =>
    obtain ⟨k, xs, hk, rfl, hown, hol, hbl⟩ := hrel
    have Hol := Lib.hid hol
    clear hol
    by_cases hlt : k < L.length
    case neg =>
      have hol := Hol.out
      rw [List.take_of_length_le (by omega)] at hol
      obtain ⟨A6, c6, rfl, hr6, hn6⟩ := OwnS.forms2 hown (hol.below hbl)
      have hkp : (L.filter fun x => !(L.any fun z => prefP z x)) = keptL prefP L := rfl
      rw [hkp] at hr6 hn6
      rw [hkp]
      obtain ⟨K, hK⟩ : ∃ K, keptL prefP L = K := ⟨_, rfl⟩
      rw [hK] at hr6 hn6
      rw [hK]
      have HK := Lib.hid hK; have Hr6 := Lib.hid hr6; have Hn6 := Lib.hid hn6
      clear hol hkp hK hr6 hn6 hown
      go_wp2_with fail
      go_ret2
      rw [Hres.out, HK.out]
      exact ⟨A6, c6, rfl, Hr6.out, Hn6.out, endB hB5 hbl⟩
    case pos =>
    have hlt' : (k : Int) < (L.length : Int) := by omega
    have hk0 : (0 : Int) ≤ (k : Int) := by omega
    obtain ⟨b, o, AX, cx, hA, hcell5, hox, hri5⟩ := Hr5.out k hlt
    subst hA
    have hcell := (hbl.cell (lt_of_cell hcell5)).trans hcell5
    have hlx := Hs2.out _ (List.getElem_mem hlt)
    have hst := filter_stepX (fun x => !(L.any fun z => prefP z x)) L hlt
    obtain ⟨y, hy⟩ : ∃ y, L[k] = y := ⟨_, rfl⟩
    rw [hy] at hcell hox hri5 hlx hst
    have hly : y.length ≤ 100 := hlx
    have hxs : xs.length ≤ 1000000 := by
      have h1 := Hol.out.1
      have h2 := List.length_filter_le (fun x => !(L.any fun z => prefP z x)) (L.take k)
      have h3 := List.length_take_le' k L
      omega
    have Hst := Lib.hid hst; have Hxs := Lib.hid hxs; have Hown := Lib.hid hown; have Hox := Lib.hid hox
    clear hst hxs hown hox hy hcell5 hlx
    obtain ⟨wo, hwo⟩ : ∃ wo, wo = wr := ⟨_, rfl⟩
    subst hwo
    go_wp2_with fail
    go_loopw [8, 9] (fun d j wi => ∃ t : Nat, t ≤ L.length ∧ j = .int .i64 t ∧ d = .bool ((L.take t).all fun z => !prefP z y) ∧ Below wo.heap.size wo wi) (fun _ j _ => L.length - (intOf j).toNat)
    case atStart => exact ⟨0, Nat.zero_le _, rfl, by simp, Below.refl _ _⟩
    case round =>
      obtain ⟨t, ht, rfl, rfl, hbt⟩ := hrel
      have hbl3 := endB hbl hbt
      obtain ⟨d, hd⟩ : ∃ d, ((L.take t).all fun z => !prefP z y) = d := ⟨_, rfl⟩
      rw [hd]
      have Hd := Lib.hid hd
      clear hd
      have Hown3 := Lib.hid (show OwnS wr W5.heap.size _ xs from ownsRow_below Hown.out hbt)
      have hcellr := (hbt.cell (lt_of_cell hcell)).trans hcell
      by_cases htl : t < L.length
      case neg =>
        have hdx : (!(L.any fun z => prefP z y)) = d := by
          rw [List.not_any_eq_all_not]
          have := Hd.out
          rwa [List.take_of_length_le (by omega)] at this
        have Hdx := Lib.hid hdx
        clear hdx
        cases d
        · go_wp2_with fail
          go_roundw
          case rel => exact ⟨k + 1, xs, by omega, by go_num, Hown3.out, by rw [Hst.out, Hdx.out]; simpa using Hol.out, hbl3⟩
          case measure => simp [intOf]; omega
        · go_wp2_with (at_builtin; refine wpList_appS (by rfl) (.tmp 46) (.tmp 51) (by rfl) wr W5.heap.size _ xs AX y.length cx Hown3.out (by rfl) (by rfl) Hxs.out hbl3.size ?_; intro v' w3 hown' hb3 hg3)
          go_roundw
          case rel => exact ⟨k + 1, _, by omega, by go_num, hown', by rw [Hst.out, Hdx.out]; exact Hol.out.snoc Hox.out, hbl3.trans hb3⟩
          case measure => simp [intOf]; omega
      case pos =>
      have htl' : (t : Int) < (L.length : Int) := by omega
      have ht0 : (0 : Int) ≤ (t : Int) := by omega
      obtain ⟨b', o', AZ, cz, hA', hcz5, _, hriz5⟩ := Hr5.out t htl
      injection hA' with hA'
      injection hA' with hA1 hA2 _
      subst hA1 hA2
      have hcz := (hbl3.cell (lt_of_cell hcz5)).trans hcz5
      have hriz := hriz5.below hbl3
      have hriy := hri5.below hbl3
      have hlz := Hs2.out _ (List.getElem_mem htl)
      have hstp := all_stepX (fun z => !prefP z y) L htl
      rw [Hd.out] at hstp
      obtain ⟨z, hz⟩ : ∃ z, L[t] = z := ⟨_, rfl⟩
      rw [hz] at hcz hriz hlz hstp
      have hlz' : z.length ≤ 100 := hlz
      obtain ⟨q, hq⟩ : ∃ q, prefP z y = q := ⟨_, rfl⟩
      rw [hq] at hstp
      have hqw : withinB (withL y 1) (withL z 1) = q := by rw [← hq]; unfold prefP; rw [places_one, places_one]
      have Hstp := Lib.hid hstp; have Hqw := Lib.hid hqw
      have hl1 : (withL y 1).length ≤ 100000 := Nat.le_trans (nodesB_length _ _) (by omega)
      have hl2 : (withL z 1).length ≤ 100000 := Nat.le_trans (nodesB_length _ _) (by omega)
      clear hstp hq hqw hz hcz5 hriz5 hlz
      obtain ⟨wq, hwq⟩ : ∃ wq, wq = wr := ⟨_, rfl⟩
      subst hwq
      go_upto_region 12 with fail
      refine wp_region_textB [6, 11, 12] (SB wq) (RIs []) (by kernel_rfl) (by kernel_rfl) (by kernel_rfl) (Below.refl _ _).drew (RIs.nil _) ?_
      cases d
      case false =>
        repeat (first
          | (refine TxtBL.skip (by rfl) ?_; simp only [Act.put, List.setIfInBounds_toArray, List.set_cons_zero, List.set_cons_succ])
          | (refine TxtBL.take (by rfl) (by rfl) ?_; apply Exists.intro; refine ⟨fun w1 hS1 => ?_, ?_⟩; (focus ((have g1 := (hS1.cell (lt_of_cell hcellr)).trans hcellr); (have g2 := (hS1.cell (lt_of_cell hcz)).trans hcz); go_simp; with_reducible rfl)); simp only [Act.put, List.setIfInBounds_toArray, List.set_cons_zero, List.set_cons_succ])
          | (refine TxtBL.takeE (by rfl) (by rfl) ?_; apply Exists.intro; refine ⟨fun w1 hS1 => ?_, ?_⟩; (focus ((have g1 := (hS1.cell (lt_of_cell hcellr)).trans hcellr); (have g2 := (hS1.cell (lt_of_cell hcz)).trans hcz); go_simp; with_reducible rfl)); simp only [Act.put, List.setIfInBounds_toArray, List.set_cons_zero, List.set_cons_succ]))
        refine TxtBL.nil (fun W3 hS3 _ => ?_)
        go_wp2_with fail
        go_roundw
        case rel => exact ⟨t + 1, by omega, by go_num, by rw [Hstp.out]; rfl, hbt.trans (hS3.mono hbt.size)⟩
        case measure => simp [intOf]; omega
      case true =>
        repeat (first
          | (refine TxtBL.skip (by rfl) ?_; simp only [Act.put, List.setIfInBounds_toArray, List.set_cons_zero, List.set_cons_succ])
          | (refine TxtBL.take (by rfl) (by rfl) ?_; apply Exists.intro; refine ⟨fun w1 hS1 => ?_, ?_⟩; (focus ((have g1 := (hS1.cell (lt_of_cell hcellr)).trans hcellr); (have g2 := (hS1.cell (lt_of_cell hcz)).trans hcz); go_simp; with_reducible rfl)); simp only [Act.put, List.setIfInBounds_toArray, List.set_cons_zero, List.set_cons_succ])
          | (refine TxtBL.takeE (by rfl) (by rfl) ?_; apply Exists.intro; refine ⟨fun w1 hS1 => ?_, ?_⟩; (focus ((have g1 := (hS1.cell (lt_of_cell hcellr)).trans hcellr); (have g2 := (hS1.cell (lt_of_cell hcz)).trans hcz); go_simp; with_reducible rfl)); simp only [Act.put, List.setIfInBounds_toArray, List.set_cons_zero, List.set_cons_succ]))
        refine TxtBL.callI (by rfl) (by rfl) ?_
        apply Exists.intro; apply Exists.intro
        refine ⟨fun w1 hS1 => ?_, ?_⟩
        focus (go_simp; first | with_reducible rfl | exact ⟨rfl, rfl⟩)
        refine ⟨withL y 1, fun w1 hS1 hJ1 => r11With_any AX y cx 1 w1 (hriy.below hS1) (by omega), fun A8 c8 => ?_⟩
        simp only [Act.put, List.setIfInBounds_toArray, List.set_cons_zero, List.set_cons_succ]
        repeat (first
          | (refine TxtBL.skip (by rfl) ?_; simp only [Act.put, List.setIfInBounds_toArray, List.set_cons_zero, List.set_cons_succ])
          | (refine TxtBL.take (by rfl) (by rfl) ?_; apply Exists.intro; refine ⟨fun w1 hS1 => ?_, ?_⟩; (focus ((have g1 := (hS1.cell (lt_of_cell hcellr)).trans hcellr); (have g2 := (hS1.cell (lt_of_cell hcz)).trans hcz); go_simp; with_reducible rfl)); simp only [Act.put, List.setIfInBounds_toArray, List.set_cons_zero, List.set_cons_succ])
          | (refine TxtBL.takeE (by rfl) (by rfl) ?_; apply Exists.intro; refine ⟨fun w1 hS1 => ?_, ?_⟩; (focus ((have g1 := (hS1.cell (lt_of_cell hcellr)).trans hcellr); (have g2 := (hS1.cell (lt_of_cell hcz)).trans hcz); go_simp; with_reducible rfl)); simp only [Act.put, List.setIfInBounds_toArray, List.set_cons_zero, List.set_cons_succ]))
        refine TxtBL.callI (by rfl) (by rfl) ?_
        apply Exists.intro; apply Exists.intro
        refine ⟨fun w1 hS1 => ?_, ?_⟩
        focus (go_simp; first | with_reducible rfl | exact ⟨rfl, rfl⟩)
        refine ⟨withL z 1, fun w1 hS1 hJ1 => r11With_any AZ z cz 1 w1 (hriz.below hS1) (by omega), fun A9 c9 => ?_⟩
        simp only [Act.put, List.setIfInBounds_toArray, List.set_cons_zero, List.set_cons_succ]
        repeat (first
          | (refine TxtBL.skip (by rfl) ?_; simp only [Act.put, List.setIfInBounds_toArray, List.set_cons_zero, List.set_cons_succ])
          | (refine TxtBL.take (by rfl) (by rfl) ?_; apply Exists.intro; refine ⟨fun w1 hS1 => ?_, ?_⟩; (focus (skip; go_simp; with_reducible rfl)); simp only [Act.put, List.setIfInBounds_toArray, List.set_cons_zero, List.set_cons_succ])
          | (refine TxtBL.takeE (by rfl) (by rfl) ?_; apply Exists.intro; refine ⟨fun w1 hS1 => ?_, ?_⟩; (focus (skip; go_simp; with_reducible rfl)); simp only [Act.put, List.setIfInBounds_toArray, List.set_cons_zero, List.set_cons_succ]))
        refine TxtBL.callB (by rfl) (by rfl) ?_
        apply Exists.intro; apply Exists.intro
        refine ⟨fun w1 hS1 => ?_, ?_⟩
        focus (go_simp; first | with_reducible rfl | exact ⟨rfl, rfl⟩)
        refine ⟨.bool q, fun w1 hS1 hJ1 => ?_, ?_⟩
        · have H9 := r15Proper_any A8 A9 (withL y 1) (withL z 1) c8 c9 w1 (by omega) (by omega) hJ1.tail.head hJ1.head
          rw [Hqw.out] at H9
          exact H9.mono fun e w' h => by obtain ⟨rfl, rfl⟩ := h; exact ⟨rfl, Below.refl _ _⟩
        simp only [Act.put, List.setIfInBounds_toArray, List.set_cons_zero, List.set_cons_succ]
        repeat (first
          | (refine TxtBL.skip (by rfl) ?_; simp only [Act.put, List.setIfInBounds_toArray, List.set_cons_zero, List.set_cons_succ])
          | (refine TxtBL.take (by rfl) (by rfl) ?_; apply Exists.intro; refine ⟨fun w1 hS1 => ?_, ?_⟩; (focus (skip; go_simp; with_reducible rfl)); simp only [Act.put, List.setIfInBounds_toArray, List.set_cons_zero, List.set_cons_succ])
          | (refine TxtBL.takeE (by rfl) (by rfl) ?_; apply Exists.intro; refine ⟨fun w1 hS1 => ?_, ?_⟩; (focus (skip; go_simp; with_reducible rfl)); simp only [Act.put, List.setIfInBounds_toArray, List.set_cons_zero, List.set_cons_succ]))
        refine TxtBL.nil (fun W3 hS3 _ => ?_)
        cases q
        · go_wp2_with fail
          go_roundw
          case rel => exact ⟨t + 1, by omega, by go_num, by rw [Hstp.out]; rfl, hbt.trans (hS3.mono hbt.size)⟩
          case measure => simp [intOf]; omega
        · go_wp2_with fail
          go_roundw
          case rel => exact ⟨t + 1, by omega, by go_num, by rw [Hstp.out]; rfl, hbt.trans (hS3.mono hbt.size)⟩
          case measure => simp [intOf]; omega

set_option maxRecDepth 100000 in
set_option maxHeartbeats 4000000 in
theorem r15SemiStable_any (A : Option Addr) (N : Int) (l : List (Int × Int)) (c : Nat) (w : World) (hr : RP w A l) (hlen : l.length ≤ 100000) (hT : Tab w) :
    Calls Tryz.prog 23 #[.agg #[.int .i64 N, .slice A l.length c]] w (RetLE (bestR semiP N l) w) := by
  go_enter Tryz.func23, Tryz.ntmps23
  go_upto_region 1 with fail
  obtain ⟨W0, hW, d0, d1, hb0, hlt0⟩ := boxed w 24 (.int .i64 N) (.slice A l.length c)
  rw [hW]
  clear hW
  obtain ⟨C, hC⟩ : ∃ C, compR N l = C := ⟨_, rfl⟩
  have hcc := r14Complete_any A N l c W0 (hr.below hb0) hlen (hT.below hb0)
  obtain ⟨hs1, hs2⟩ := compR_sm N l
  have hbest : bestR semiP N l = if C.2 = 0 then (keptL semiP C.1, 0) else ([], C.2) := by unfold bestR; rw [hC]
  rw [hC] at hcc hs1 hs2
  have Hcc := Lib.hid hcc; have Hbest := Lib.hid hbest; have Hs2 := Lib.hid hs2
  clear hcc hbest hs2 hC
  obtain ⟨L, x⟩ := C
  have hs1' : L.length ≤ 200 := hs1
  clear hs1
  go_wp2_with fail
  refine Hcc.out.mono ?_
  rintro e W5 ⟨A5, c5, rfl, hr5, hn5, hb5⟩
  have hB5 := endB hb0 hb5
  have hr5' : RSo W5 A5 L := hr5
  have Hr5 := Lib.hid hr5'
  clear Hcc hr5 hr5' hn5 d0 d1
  by_cases hx0 : x = 0
  case neg =>
    have hxb : (x == 0) = false := beq_eq_false_iff_ne.2 hx0
    have hres : bestR semiP N l = ([], x) := by rw [Hbest.out]; exact if_neg hx0
    have Hres := Lib.hid hres
    clear hres
    go_wp2_with fail
    go_ret2
    rw [Hres.out]
    exact ⟨none, 0, rfl, RSo.nil _ _, fun _ => ⟨rfl, rfl⟩, hB5⟩
  case pos =>
  subst hx0
  have hres : bestR semiP N l = (keptL semiP L, 0) := by rw [Hbest.out]; exact if_pos rfl
  have Hres := Lib.hid hres
  clear hres Hbest
  go_wp2_with fail
  go_loopw [6, 7] (fun v i wr => ∃ (k : Nat) (xs : List Value), k ≤ L.length ∧ i = .int .i64 k ∧ OwnS wr W5.heap.size v xs ∧ OwnL W5 0 xs ((L.take k).filter fun x => !(L.any fun z => semiP z x)) ∧ Below W5.heap.size W5 wr) (fun _ i _ => L.length - (intOf i).toNat)
  case atStart => exact ⟨0, [], Nat.zero_le _, rfl, OwnS.nil _ _, OwnL.nil _ _, Below.refl _ _⟩
  case round =>
    obtain ⟨k, xs, hk, rfl, hown, hol, hbl⟩ := hrel
    have Hol := Lib.hid hol
    clear hol
    by_cases hlt : k < L.length
    case neg =>
      have hol := Hol.out
      rw [List.take_of_length_le (by omega)] at hol
      obtain ⟨A6, c6, rfl, hr6, hn6⟩ := OwnS.forms2 hown (hol.below hbl)
      have hkp : (L.filter fun x => !(L.any fun z => semiP z x)) = keptL semiP L := rfl
      rw [hkp] at hr6 hn6
      rw [hkp]
      obtain ⟨K, hK⟩ : ∃ K, keptL semiP L = K := ⟨_, rfl⟩
      rw [hK] at hr6 hn6
      rw [hK]
      have HK := Lib.hid hK; have Hr6 := Lib.hid hr6; have Hn6 := Lib.hid hn6
      clear hol hkp hK hr6 hn6 hown
      go_wp2_with fail
      go_ret2
      rw [Hres.out, HK.out]
      exact ⟨A6, c6, rfl, Hr6.out, Hn6.out, endB hB5 hbl⟩
    case pos =>
    have hlt' : (k : Int) < (L.length : Int) := by omega
    have hk0 : (0 : Int) ≤ (k : Int) := by omega
    obtain ⟨b, o, AX, cx, hA, hcell5, hox, hri5⟩ := Hr5.out k hlt
    subst hA
    have hcell := (hbl.cell (lt_of_cell hcell5)).trans hcell5
    have hlx := Hs2.out _ (List.getElem_mem hlt)
    have hst := filter_stepX (fun x => !(L.any fun z => semiP z x)) L hlt
    obtain ⟨y, hy⟩ : ∃ y, L[k] = y := ⟨_, rfl⟩
    rw [hy] at hcell hox hri5 hlx hst
    have hly : y.length ≤ 100 := hlx
    have hxs : xs.length ≤ 1000000 := by
      have h1 := Hol.out.1
      have h2 := List.length_filter_le (fun x => !(L.any fun z => semiP z x)) (L.take k)
      have h3 := List.length_take_le' k L
      omega
    have Hst := Lib.hid hst; have Hxs := Lib.hid hxs; have Hown := Lib.hid hown; have Hox := Lib.hid hox
    clear hst hxs hown hox hy hcell5 hlx
    obtain ⟨wo, hwo⟩ : ∃ wo, wo = wr := ⟨_, rfl⟩
    subst hwo
    go_wp2_with fail
    go_loopw [8, 9] (fun d j wi => ∃ t : Nat, t ≤ L.length ∧ j = .int .i64 t ∧ d = .bool ((L.take t).all fun z => !semiP z y) ∧ Below wo.heap.size wo wi) (fun _ j _ => L.length - (intOf j).toNat)
    case atStart => exact ⟨0, Nat.zero_le _, rfl, by simp, Below.refl _ _⟩
    case round =>
      obtain ⟨t, ht, rfl, rfl, hbt⟩ := hrel
      have hbl3 := endB hbl hbt
      obtain ⟨d, hd⟩ : ∃ d, ((L.take t).all fun z => !semiP z y) = d := ⟨_, rfl⟩
      rw [hd]
      have Hd := Lib.hid hd
      clear hd
      have Hown3 := Lib.hid (show OwnS wr W5.heap.size _ xs from ownsRow_below Hown.out hbt)
      have hcellr := (hbt.cell (lt_of_cell hcell)).trans hcell
      by_cases htl : t < L.length
      case neg =>
        have hdx : (!(L.any fun z => semiP z y)) = d := by
          rw [List.not_any_eq_all_not]
          have := Hd.out
          rwa [List.take_of_length_le (by omega)] at this
        have Hdx := Lib.hid hdx
        clear hdx
        cases d
        · go_wp2_with fail
          go_roundw
          case rel => exact ⟨k + 1, xs, by omega, by go_num, Hown3.out, by rw [Hst.out, Hdx.out]; simpa using Hol.out, hbl3⟩
          case measure => simp [intOf]; omega
        · go_wp2_with (at_builtin; refine wpList_appS (by rfl) (.tmp 46) (.tmp 51) (by rfl) wr W5.heap.size _ xs AX y.length cx Hown3.out (by rfl) (by rfl) Hxs.out hbl3.size ?_; intro v' w3 hown' hb3 hg3)
          go_roundw
          case rel => exact ⟨k + 1, _, by omega, by go_num, hown', by rw [Hst.out, Hdx.out]; exact Hol.out.snoc Hox.out, hbl3.trans hb3⟩
          case measure => simp [intOf]; omega
      case pos =>
      have htl' : (t : Int) < (L.length : Int) := by omega
      have ht0 : (0 : Int) ≤ (t : Int) := by omega
      obtain ⟨b', o', AZ, cz, hA', hcz5, _, hriz5⟩ := Hr5.out t htl
      injection hA' with hA'
      injection hA' with hA1 hA2 _
      subst hA1 hA2
      have hcz := (hbl3.cell (lt_of_cell hcz5)).trans hcz5
      have hriz := hriz5.below hbl3
      have hriy := hri5.below hbl3
      have hlz := Hs2.out _ (List.getElem_mem htl)
      have hstp := all_stepX (fun z => !semiP z y) L htl
      rw [Hd.out] at hstp
      obtain ⟨z, hz⟩ : ∃ z, L[t] = z := ⟨_, rfl⟩
      rw [hz] at hcz hriz hlz hstp
      have hlz' : z.length ≤ 100 := hlz
      obtain ⟨q, hq⟩ : ∃ q, semiP z y = q := ⟨_, rfl⟩
      rw [hq] at hstp
      have hqw : withinB (withL z 3) (withL y 3) = q := by rw [← hq]; unfold semiP; rw [places_one, places_one]
      have Hstp := Lib.hid hstp; have Hqw := Lib.hid hqw
      have hl1 : (withL y 3).length ≤ 100000 := Nat.le_trans (nodesB_length _ _) (by omega)
      have hl2 : (withL z 3).length ≤ 100000 := Nat.le_trans (nodesB_length _ _) (by omega)
      clear hstp hq hqw hz hcz5 hriz5 hlz
      obtain ⟨wq, hwq⟩ : ∃ wq, wq = wr := ⟨_, rfl⟩
      subst hwq
      go_upto_region 12 with fail
      refine wp_region_textB [6, 11, 12] (SB wq) (RIs []) (by kernel_rfl) (by kernel_rfl) (by kernel_rfl) (Below.refl _ _).drew (RIs.nil _) ?_
      cases d
      case false =>
        repeat (first
          | (refine TxtBL.skip (by rfl) ?_; simp only [Act.put, List.setIfInBounds_toArray, List.set_cons_zero, List.set_cons_succ])
          | (refine TxtBL.take (by rfl) (by rfl) ?_; apply Exists.intro; refine ⟨fun w1 hS1 => ?_, ?_⟩; (focus ((have g1 := (hS1.cell (lt_of_cell hcellr)).trans hcellr); (have g2 := (hS1.cell (lt_of_cell hcz)).trans hcz); go_simp; with_reducible rfl)); simp only [Act.put, List.setIfInBounds_toArray, List.set_cons_zero, List.set_cons_succ])
          | (refine TxtBL.takeE (by rfl) (by rfl) ?_; apply Exists.intro; refine ⟨fun w1 hS1 => ?_, ?_⟩; (focus ((have g1 := (hS1.cell (lt_of_cell hcellr)).trans hcellr); (have g2 := (hS1.cell (lt_of_cell hcz)).trans hcz); go_simp; with_reducible rfl)); simp only [Act.put, List.setIfInBounds_toArray, List.set_cons_zero, List.set_cons_succ]))
        refine TxtBL.nil (fun W3 hS3 _ => ?_)
        go_wp2_with fail
        go_roundw
        case rel => exact ⟨t + 1, by omega, by go_num, by rw [Hstp.out]; rfl, hbt.trans (hS3.mono hbt.size)⟩
        case measure => simp [intOf]; omega
      case true =>
        repeat (first
          | (refine TxtBL.skip (by rfl) ?_; simp only [Act.put, List.setIfInBounds_toArray, List.set_cons_zero, List.set_cons_succ])
          | (refine TxtBL.take (by rfl) (by rfl) ?_; apply Exists.intro; refine ⟨fun w1 hS1 => ?_, ?_⟩; (focus ((have g1 := (hS1.cell (lt_of_cell hcellr)).trans hcellr); (have g2 := (hS1.cell (lt_of_cell hcz)).trans hcz); go_simp; with_reducible rfl)); simp only [Act.put, List.setIfInBounds_toArray, List.set_cons_zero, List.set_cons_succ])
          | (refine TxtBL.takeE (by rfl) (by rfl) ?_; apply Exists.intro; refine ⟨fun w1 hS1 => ?_, ?_⟩; (focus ((have g1 := (hS1.cell (lt_of_cell hcellr)).trans hcellr); (have g2 := (hS1.cell (lt_of_cell hcz)).trans hcz); go_simp; with_reducible rfl)); simp only [Act.put, List.setIfInBounds_toArray, List.set_cons_zero, List.set_cons_succ]))
        refine TxtBL.callI (by rfl) (by rfl) ?_
        apply Exists.intro; apply Exists.intro
        refine ⟨fun w1 hS1 => ?_, ?_⟩
        focus (go_simp; first | with_reducible rfl | exact ⟨rfl, rfl⟩)
        refine ⟨withL z 3, fun w1 hS1 hJ1 => r11With_any AZ z cz 3 w1 (hriz.below hS1) (by omega), fun A8 c8 => ?_⟩
        simp only [Act.put, List.setIfInBounds_toArray, List.set_cons_zero, List.set_cons_succ]
        repeat (first
          | (refine TxtBL.skip (by rfl) ?_; simp only [Act.put, List.setIfInBounds_toArray, List.set_cons_zero, List.set_cons_succ])
          | (refine TxtBL.take (by rfl) (by rfl) ?_; apply Exists.intro; refine ⟨fun w1 hS1 => ?_, ?_⟩; (focus ((have g1 := (hS1.cell (lt_of_cell hcellr)).trans hcellr); (have g2 := (hS1.cell (lt_of_cell hcz)).trans hcz); go_simp; with_reducible rfl)); simp only [Act.put, List.setIfInBounds_toArray, List.set_cons_zero, List.set_cons_succ])
          | (refine TxtBL.takeE (by rfl) (by rfl) ?_; apply Exists.intro; refine ⟨fun w1 hS1 => ?_, ?_⟩; (focus ((have g1 := (hS1.cell (lt_of_cell hcellr)).trans hcellr); (have g2 := (hS1.cell (lt_of_cell hcz)).trans hcz); go_simp; with_reducible rfl)); simp only [Act.put, List.setIfInBounds_toArray, List.set_cons_zero, List.set_cons_succ]))
        refine TxtBL.callI (by rfl) (by rfl) ?_
        apply Exists.intro; apply Exists.intro
        refine ⟨fun w1 hS1 => ?_, ?_⟩
        focus (go_simp; first | with_reducible rfl | exact ⟨rfl, rfl⟩)
        refine ⟨withL y 3, fun w1 hS1 hJ1 => r11With_any AX y cx 3 w1 (hriy.below hS1) (by omega), fun A9 c9 => ?_⟩
        simp only [Act.put, List.setIfInBounds_toArray, List.set_cons_zero, List.set_cons_succ]
        repeat (first
          | (refine TxtBL.skip (by rfl) ?_; simp only [Act.put, List.setIfInBounds_toArray, List.set_cons_zero, List.set_cons_succ])
          | (refine TxtBL.take (by rfl) (by rfl) ?_; apply Exists.intro; refine ⟨fun w1 hS1 => ?_, ?_⟩; (focus (skip; go_simp; with_reducible rfl)); simp only [Act.put, List.setIfInBounds_toArray, List.set_cons_zero, List.set_cons_succ])
          | (refine TxtBL.takeE (by rfl) (by rfl) ?_; apply Exists.intro; refine ⟨fun w1 hS1 => ?_, ?_⟩; (focus (skip; go_simp; with_reducible rfl)); simp only [Act.put, List.setIfInBounds_toArray, List.set_cons_zero, List.set_cons_succ]))
        refine TxtBL.callB (by rfl) (by rfl) ?_
        apply Exists.intro; apply Exists.intro
        refine ⟨fun w1 hS1 => ?_, ?_⟩
        focus (go_simp; first | with_reducible rfl | exact ⟨rfl, rfl⟩)
        refine ⟨.bool q, fun w1 hS1 hJ1 => ?_, ?_⟩
        · have H9 := r15Proper_any A8 A9 (withL z 3) (withL y 3) c8 c9 w1 (by omega) (by omega) hJ1.tail.head hJ1.head
          rw [Hqw.out] at H9
          exact H9.mono fun e w' h => by obtain ⟨rfl, rfl⟩ := h; exact ⟨rfl, Below.refl _ _⟩
        simp only [Act.put, List.setIfInBounds_toArray, List.set_cons_zero, List.set_cons_succ]
        repeat (first
          | (refine TxtBL.skip (by rfl) ?_; simp only [Act.put, List.setIfInBounds_toArray, List.set_cons_zero, List.set_cons_succ])
          | (refine TxtBL.take (by rfl) (by rfl) ?_; apply Exists.intro; refine ⟨fun w1 hS1 => ?_, ?_⟩; (focus (skip; go_simp; with_reducible rfl)); simp only [Act.put, List.setIfInBounds_toArray, List.set_cons_zero, List.set_cons_succ])
          | (refine TxtBL.takeE (by rfl) (by rfl) ?_; apply Exists.intro; refine ⟨fun w1 hS1 => ?_, ?_⟩; (focus (skip; go_simp; with_reducible rfl)); simp only [Act.put, List.setIfInBounds_toArray, List.set_cons_zero, List.set_cons_succ]))
        refine TxtBL.nil (fun W3 hS3 _ => ?_)
        cases q
        · go_wp2_with fail
          go_roundw
          case rel => exact ⟨t + 1, by omega, by go_num, by rw [Hstp.out]; rfl, hbt.trans (hS3.mono hbt.size)⟩
          case measure => simp [intOf]; omega
        · go_wp2_with fail
          go_roundw
          case rel => exact ⟨t + 1, by omega, by go_num, by rw [Hstp.out]; rfl, hbt.trans (hS3.mono hbt.size)⟩
          case measure => simp [intOf]; omega
end Go.Proofs.YtcpombepajapjaaGreatDoor
