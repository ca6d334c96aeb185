/- ref12: Check. -/
import Derived.Test.YtiljbfeipfdmdaaDoorGk
namespace Go.Proofs.YtiljbfeipfdmdaaDoor
open Go.ChangeShapes Go.WideShapes Go.ChangeAt Go.RowKit

theorem anyT_hit {α : Type} {l : List α} {P : α → Bool} {k : Nat} (h : k < l.length) (hp : P l[k] = true) : l.any P = true := List.any_eq_true.2 ⟨_, List.getElem_mem h, hp⟩
theorem p1_nat {r : List Int} {i a : Nat} : p1B r i (a : Int) = decide (r.getD i 0 ≤ r.getD a 0) := by unfold p1B; rw [Int.toNat_natCast]
theorem p2_nat {x r : List Int} {i a : Nat} : p2B x r i (a : Int) = ((x.getD a 0 == 1) && decide (1 ≤ r.getD a 0) && decide (r.getD a 0 ≤ r.getD i 0)) := by unfold p2B; rw [Int.toNat_natCast]

theorem nGl_ok {n : Nat} {l : List (Int × Int)} (h : Vld n l) : nGl n l = l := by unfold nGl; rw [h.valE]; rfl

set_option maxRecDepth 100000 in
set_option maxHeartbeats 8000000 in
theorem r12Check_any (A : Option Addr) (N : Int) (l : List (Int × Int)) (c : Nat) (X : Option Addr) (x : List Int) (xc : Nat) (R : Option Addr) (r : List Int) (rc : Nat) (w : World) (hr : RP w A l) (hlen : l.length ≤ 100000) (hx : RI w X x) (hxl : x.length ≤ 100000) (hrr : RI w R r) (_hrl : r.length ≤ 100000) (hT : Tab w) :
    Calls Tryd.prog 50 #[.agg #[.int .i64 N, .slice A l.length c], .slice X x.length xc, .slice R r.length rc] w (RetB (.int .i64 (chkE N l x r)) w) := by
  have hve : valE N l ≠ 0 → Hid (chkE N l x r = 1) := fun h => Lib.hid (by unfold chkE; rw [if_pos h])
  have hvn : valE N l = 0 → Hid (chkE N l x r = chkF N.toNat l x r) := fun h => Lib.hid (by unfold chkE; rw [if_neg (by rw [h]; simp)])
  have hex : valE N l = 0 → ∃ n : Nat, N = n ∧ Vld n l := fun h => vld_of_valE h hlen
  have hV := fun W (h : RP W A l) => r10Validate_any A N l c W h hlen
  generalize valE N l = ve at *
  go_enter Tryd.func50, Tryd.ntmps50
  go_wp2_with fail
  obtain ⟨W0, hW, c0, c1, hb0, hlt0⟩ := boxed w 27 (.int .i64 N) (.slice A l.length c)
  rw [hW]
  clear hW
  refine (hV W0 (hr.below hb0)).mono ?_
  clear hV
  rintro e w1 ⟨rfl, hb1⟩
  have hB1 := endB hb0 hb1
  have d0 := (hb1.cell (lt_of_cell c0)).trans c0
  have d1 := (hb1.cell (lt_of_cell c1)).trans c1
  have hx1 := hx.below hB1; have hr1 := hr.below hB1; have hrr1 := hrr.below hB1; have hT1 := hT.below hB1
  clear c0 c1 hb0 hb1 hr hx hrr hT
  by_cases h0 : ve = 0
  case neg =>
    have HE := hve h0
    have hd : (ve != 0) = true := by simpa using h0
    clear hve hvn hex h0
    go_wp2_with fail
    go_ret
    exact ⟨ri HE.out.symm, hB1⟩
  case pos =>
  have HE := hvn h0
  obtain ⟨n, rfl, hv⟩ := hex h0
  subst h0
  rw [Int.toNat_natCast] at HE
  have HV := Lib.hid hv
  have hn := hv.1.1
  clear hve hvn hex hv
  go_wp2_with fail
  refine (r11Valid_any _ n X x xc w1 hx1 hxl).mono ?_
  rintro e w2 ⟨rfl, hb2⟩
  have hB2 := endB hB1 hb2
  have e0 := (hb2.cell (lt_of_cell d0)).trans d0
  have e1 := (hb2.cell (lt_of_cell d1)).trans d1
  have hx2 := hx1.below hb2; have hr2 := hr1.below hb2; have hrr2 := hrr1.below hb2; have hT2 := hT1.below hb2
  clear d0 d1 hx1 hr1 hrr1 hT1 hb2
  cases hlb : labB n x
  case false =>
    have H := Lib.hid (chk_bad (l := l) (r := r) (.inl hlb))
    clear hlb
    go_wp2_with fail
    go_ret
    exact ⟨ri (by rw [HE.out, H.out]), hB2⟩
  case true =>
  by_cases hrn : r.length = n
  case neg =>
    have H := Lib.hid (chk_bad (l := l) (x := x) (.inr hrn))
    have hd : ((r.length : Int) != (n : Int)) = true := by simp; omega
    clear hlb hrn
    go_wp2_with fail
    go_ret
    exact ⟨ri (by rw [HE.out, H.out]), hB2⟩
  case pos =>
  have hd : ((r.length : Int) != (n : Int)) = false := by simp [hrn]
  have hno : ¬ (labB n x = false ∨ r.length ≠ n) := by rw [hlb]; simp [hrn]
  have Hno := Lib.hid hno; have Hlb := Lib.hid hlb; have Hrn := Lib.hid hrn
  have Hxn := Lib.hid (labB_iff.1 hlb).1
  clear hno hlb hrn
  go_wp2_with fail
  refine (r11IsComplete_any A n l c X x xc w2 hr2 HV.out hx2 hxl hT2).mono ?_
  rintro e w3 ⟨rfl, hb3⟩
  have hB3 := endB hB2 hb3
  have d0 := (hb3.cell (lt_of_cell e0)).trans e0
  have d1 := (hb3.cell (lt_of_cell e1)).trans e1
  have hx3 := hx2.below hb3; have hr3 := hr2.below hb3; have hrr3 := hrr2.below hb3
  clear e0 e1 hx2 hr2 hrr2 hT2 hb3 hd
  cases hco : comB n l x
  case false =>
    have H := Lib.hid (chk_inc Hno.out hco)
    clear hco
    go_wp2_with fail
    go_ret
    exact ⟨ri (by rw [HE.out, H.out]), hB3⟩
  case true =>
  have HA := Lib.hid (chk_all Hno.out hco)
  clear hco
  go_wp2_with fail
  go_loopw [7] (fun i wr => ∃ k : Nat, k ≤ n ∧ i = .int .i64 k ∧ (List.range k).all (prvB l x r) = true ∧ Below w3.heap.size w3 wr) (fun i _ => n - (intOf i).toNat)
  case atStart => exact ⟨0, Nat.zero_le _, rfl, rfl, Below.refl _ _⟩
  case round =>
    obtain ⟨k, hk, rfl, hall, hbl⟩ := hrel
    have Hall := Lib.hid hall; clear hall
    have e0 := (hbl.cell (lt_of_cell d0)).trans d0
    have e1 := (hbl.cell (lt_of_cell d1)).trans d1
    by_cases hlt : k < n
    case neg =>
      have hlt' : ¬ (k : Int) < (n : Int) := by omega
      obtain rfl : k = n := by omega
      go_wp2_with fail
      go_ret
      exact ⟨ri (by rw [HE.out, HA.out, if_pos Hall.out]), endB hB3 hbl⟩
    case pos =>
    have hlt' : (k : Int) < (n : Int) := by omega
    have hkx : k < x.length := by rw [Hxn.out]; exact hlt
    have hkr : k < r.length := by rw [Hrn.out]; exact hlt
    have hkx' : (k : Int) < (x.length : Int) := by omega
    have hkr' : (k : Int) < (r.length : Int) := by omega
    have hrng := labB_at Hlb.out hlt
    have gx : x.getD k 0 = x[k] := by simp [List.getD, hkx]
    have gr : r.getD k 0 = r[k] := by simp [List.getD, hkr]
    obtain ⟨W1, hW1⟩ : ∃ W1, W1 = wr := ⟨_, rfl⟩
    subst hW1
    have hxw := hx3.below hbl
    have hrw := hrr3.below hbl
    obtain ⟨bx, ox, rfl, hcx⟩ := hxw.at_ hkx
    obtain ⟨br, or_, rfl, hcr⟩ := hrw.at_ hkr
    have hfail : prvB l x r k = false → Hid (chkE n l x r = 11) := fun h => Lib.hid (by rw [HE.out, HA.out, if_neg (by rw [all_fail hlt h]; simp)])
    have hgood : prvB l x r k = true → Hid ((List.range (k + 1)).all (prvB l x r) = true) := fun h => Lib.hid (all_step Hall.out h)
    have hAtt := fun W (h : RP W A l) => r10Attackers_any A n l c k W h hlen
    rw [nGl_ok HV.out] at hAtt
    have hatn : ∀ q (h : q < (attackersL l k).length), ∃ a : Nat, (attackersL l k)[q] = a ∧ a < n := fun q h => by obtain ⟨a, h1, h2, _⟩ := attacker_nat HV.out.1 (List.getElem_mem h); exact ⟨a, h1, h2⟩
    have hal := attackersL_len l k
    have hlen' := HV.out.1.2.1
    have Hatn := Lib.hid hatn
    have hprv : prvB l x r k = if x[k] = 1 then decide (1 ≤ r[k]) && !((attackersL l k).any (p1B r k)) else if x[k] = 2 then (attackersL l k).any (p2B x r k) else true := by unfold prvB; rw [gx, gr]
    have hp1 : ∀ a : Nat, p1B r k (a : Int) = decide (r[k] ≤ r.getD a 0) := fun a => by rw [p1_nat, gr]
    have hp2 : ∀ a : Nat, p2B x r k (a : Int) = ((x.getD a 0 == 1) && decide (1 ≤ r.getD a 0) && decide (r.getD a 0 ≤ r[k])) := fun a => by rw [p2_nat, gr]
    have Hp1 := Lib.hid hp1; have Hp2 := Lib.hid hp2
    rw [gx] at hrng
    clear gx gr hatn hp1 hp2
    generalize hu : x[k] = u at *
    generalize hvr : r[k] = v at *
    have Hprv := Lib.hid hprv
    clear hprv
    have h123 : u = 1 ∨ u = 2 ∨ u = 3 := by omega
    clear hrng
    rcases h123 with rfl | rfl | rfl
    · by_cases hv1 : 1 ≤ v
      · have hvb : decide (1 ≤ v) = true := by simpa using hv1
        have Hprv2 := Lib.hid (show prvB l x r k = !((attackersL l k).any (p1B r k)) by rw [Hprv.out, if_pos rfl, hvb, Bool.true_and])
        clear Hprv
        go_wp2_with fail
        refine (hAtt W1 (hr3.below hbl)).mono ?_
        clear hAtt
        rintro e W2 ⟨A2, c2, rfl, _, hri2, _, hb2⟩
        have hbl2 := endB hbl hb2
        have hxw2 := hxw.below hb2
        have hrw2 := hrw.below hb2
        have hcx2 := (hb2.cell (lt_of_cell hcx)).trans hcx
        have hcr2 := (hb2.cell (lt_of_cell hcr)).trans hcr
        clear e0 e1 hcx hcr hb2
        generalize attackersL l k = at_ at *
        go_wp2_with fail
        go_loopw [8, 58] (fun h t wr => ∃ (q nd : Nat), q ≤ at_.length ∧ t = .int .i64 q ∧ h = .bool true ∧ (at_.take q).any (p1B r k) = false ∧ wr = W2.drewN nd) (fun _ t _ => at_.length - (intOf t).toNat)
        case atStart => exact ⟨0, 0, Nat.zero_le _, rfl, rfl, rfl, rfl⟩
        case round =>
          obtain ⟨q, nd, hq, rfl, rfl, hany, rfl⟩ := hrel
          have Hany := Lib.hid hany
          clear hany
          have hbl3 : Below w3.heap.size w3 (W2.drewN nd) := below_drewN hbl2 nd
          by_cases hql : q < at_.length
          case pos =>
            obtain ⟨b2, o2, rfl, hc2⟩ := hri2.at_ hql
            obtain ⟨a, ha, han⟩ := Hatn.out q hql
            rw [ha] at hc2
            have har : a < r.length := by rw [Hrn.out]; exact han
            have har' : (a : Int) < (r.length : Int) := by omega
            obtain ⟨br2, or2, hA3, hca⟩ := hrw2.at_ har
            injection hA3 with hA3
            injection hA3 with qa1 qa2 _
            subst qa1 qa2
            have gra : r.getD a 0 = r[a] := by simp [List.getD, har]
            have hpa := Hp1.out a
            rw [gra] at hpa
            have hst := any_take (P := p1B r k) hql
            rw [ha, hpa] at hst
            have Hst := Lib.hid hst
            have hat1 : v ≤ r[a] → Hid (at_.any (p1B r k) = true) := fun h => Lib.hid (anyT_hit hql (by rw [ha, hpa]; simpa using h))
            clear gra hpa hst ha
            generalize r[a] = ra at *
            by_cases hle : v ≤ ra
            · have HF := hfail (by rw [Hprv2.out, (hat1 hle).out]; rfl)
              have hlb : decide (v ≤ ra) = true := by simpa using hle
              clear hat1 hfail hgood Hst
              go_wp2_with fail
              go_quiet (fail)
              go_wp2_with fail
              go_ret
              exact ⟨ri HF.out.symm, endB hB3 (by first | exact below_drewN hbl3 _ | exact hbl3)⟩
            · have hlb : decide (v ≤ ra) = false := by simpa using hle
              have hnew : (at_.take (q + 1)).any (p1B r k) = false := by rw [Hst.out, Hany.out, hlb]; rfl
              have Hnew := Lib.hid hnew
              clear hat1 Hst hnew
              go_wp2_with fail
              go_quiet (fail)
              go_wp2_with fail
              go_quiet (fail)
              go_wp2_with fail
              go_roundw
              case rel => exact ⟨q + 1, _, by omega, by go_num, rfl, Hnew.out, rfl⟩
              case measure => simp [intOf]; omega
          case neg =>
          have hgd := hgood (by rw [Hprv2.out]; have h9 := Hany.out; rw [List.take_of_length_le (by omega)] at h9; rw [h9]; rfl)
          clear hgood hfail
          go_wp2_with fail
          go_roundw
          case rel => exact ⟨k + 1, by omega, by go_num, hgd.out, hbl3⟩
          case measure => simp [intOf]; omega
      · have hvb : decide (1 ≤ v) = false := by simpa using hv1
        have HF := hfail (by rw [Hprv.out, if_pos rfl, hvb, Bool.false_and])
        clear Hprv hfail hgood
        go_wp2_with fail
        refine (hAtt W1 (hr3.below hbl)).mono ?_
        clear hAtt
        rintro e W2 ⟨A2, c2, rfl, _, hri2, _, hb2⟩
        have hbl2 := endB hbl hb2
        have hxw2 := hxw.below hb2
        have hrw2 := hrw.below hb2
        have hcx2 := (hb2.cell (lt_of_cell hcx)).trans hcx
        have hcr2 := (hb2.cell (lt_of_cell hcr)).trans hcr
        clear e0 e1 hcx hcr hb2
        generalize attackersL l k = at_ at *
        go_wp2_with fail
        go_loopw [8, 58] (fun h t wr => ∃ (q nd : Nat), q ≤ at_.length ∧ t = .int .i64 q ∧ h = .bool false ∧ wr = W2.drewN nd) (fun _ t _ => at_.length - (intOf t).toNat)
        case atStart => exact ⟨0, 0, Nat.zero_le _, rfl, rfl, rfl⟩
        case round =>
          obtain ⟨q, nd, hq, rfl, rfl, rfl⟩ := hrel
          have hbl3 : Below w3.heap.size w3 (W2.drewN nd) := below_drewN hbl2 nd
          by_cases hql : q < at_.length
          case pos =>
            obtain ⟨b2, o2, rfl, hc2⟩ := hri2.at_ hql
            obtain ⟨a, ha, han⟩ := Hatn.out q hql
            rw [ha] at hc2
            have har : a < r.length := by rw [Hrn.out]; exact han
            have har' : (a : Int) < (r.length : Int) := by omega
            obtain ⟨br2, or2, hA3, hca⟩ := hrw2.at_ har
            injection hA3 with hA3
            injection hA3 with qa1 qa2 _
            subst qa1 qa2
            have gra : r.getD a 0 = r[a] := by simp [List.getD, har]
            have hpa := Hp1.out a
            rw [gra] at hpa
            have hst := any_take (P := p1B r k) hql
            rw [ha, hpa] at hst
            have Hst := Lib.hid hst
            have hat1 : v ≤ r[a] → Hid (at_.any (p1B r k) = true) := fun h => Lib.hid (anyT_hit hql (by rw [ha, hpa]; simpa using h))
            clear gra hpa hst ha
            generalize r[a] = ra at *
            clear Hst hat1
            by_cases hle : v ≤ ra
            · have hlb : decide (v ≤ ra) = true := by simpa using hle
              go_wp2_with fail
              go_quiet (fail)
              go_wp2_with fail
              go_ret
              exact ⟨ri HF.out.symm, endB hB3 (by first | exact below_drewN hbl3 _ | exact hbl3)⟩
            · have hlb : decide (v ≤ ra) = false := by simpa using hle
              go_wp2_with fail
              go_quiet (fail)
              go_wp2_with fail
              go_quiet (fail)
              go_wp2_with fail
              go_roundw
              case rel => exact ⟨q + 1, _, by omega, by go_num, rfl, rfl⟩
              case measure => simp [intOf]; omega
          case neg =>
          go_wp2_with fail
          go_ret
          exact ⟨ri HF.out.symm, endB hB3 hbl3⟩
    · have Hprv2 := Lib.hid (show prvB l x r k = (attackersL l k).any (p2B x r k) by rw [Hprv.out, if_neg (by omega), if_pos rfl])
      clear Hprv
      go_wp2_with fail
      refine (hAtt W1 (hr3.below hbl)).mono ?_
      clear hAtt
      rintro e W2 ⟨A2, c2, rfl, _, hri2, _, hb2⟩
      have hbl2 := endB hbl hb2
      have hxw2 := hxw.below hb2
      have hrw2 := hrw.below hb2
      have hcx2 := (hb2.cell (lt_of_cell hcx)).trans hcx
      have hcr2 := (hb2.cell (lt_of_cell hcr)).trans hcr
      clear e0 e1 hcx hcr hb2
      generalize attackersL l k = at_ at *
      go_wp2_with fail
      go_loopw [8, 58] (fun h t wr => ∃ (q nd : Nat), q ≤ at_.length ∧ t = .int .i64 q ∧ h = .bool ((at_.take q).any (p2B x r k)) ∧ wr = W2.drewN nd) (fun _ t _ => at_.length - (intOf t).toNat)
      case atStart => exact ⟨0, 0, Nat.zero_le _, rfl, rfl, rfl⟩
      case round =>
        obtain ⟨q, nd, hq, rfl, rfl, rfl⟩ := hrel
        have hbl3 : Below w3.heap.size w3 (W2.drewN nd) := below_drewN hbl2 nd
        by_cases hql : q < at_.length
        case pos =>
          obtain ⟨b2, o2, rfl, hc2⟩ := hri2.at_ hql
          obtain ⟨a, ha, han⟩ := Hatn.out q hql
          rw [ha] at hc2
          have har : a < r.length := by rw [Hrn.out]; exact han
          have hax : a < x.length := by rw [Hxn.out]; exact han
          have har' : (a : Int) < (r.length : Int) := by omega
          have hax' : (a : Int) < (x.length : Int) := by omega
          obtain ⟨br2, or2, hA3, hca⟩ := hrw2.at_ har
          injection hA3 with hA3
          injection hA3 with qa1 qa2 _
          subst qa1 qa2
          obtain ⟨bx2, ox2, hA4, hxa⟩ := hxw2.at_ hax
          injection hA4 with hA4
          injection hA4 with qx1 qx2 _
          subst qx1 qx2
          have gra : r.getD a 0 = r[a] := by simp [List.getD, har]
          have gxa : x.getD a 0 = x[a] := by simp [List.getD, hax]
          have hpa := Hp2.out a
          rw [gra, gxa] at hpa
          have hst := any_take (P := p2B x r k) hql
          rw [ha, hpa] at hst
          have Hst := Lib.hid hst
          clear gra gxa hpa hst ha
          generalize r[a] = ra at *
          generalize x[a] = xa at *
          cases hb : (at_.take q).any (p2B x r k)
          case true =>
            have hnew : (at_.take (q + 1)).any (p2B x r k) = true := by rw [Hst.out, hb, Bool.true_or]
            have Hnew := Lib.hid hnew
            clear hb Hst hnew
            go_wp2_with fail
            go_quiet (fail)
            go_wp2_with fail
            go_quiet (fail)
            go_wp2_with fail
            go_roundw
            case rel => exact ⟨q + 1, _, by omega, by go_num, by rw [Hnew.out], rfl⟩
            case measure => simp [intOf]; omega
          case false =>
          have Hst2 := Lib.hid (show (at_.take (q + 1)).any (p2B x r k) = (xa == 1 && decide (1 ≤ ra) && decide (ra ≤ v)) by rw [Hst.out, hb, Bool.false_or])
          clear hb Hst
          by_cases hz : xa = 1
          case neg =>
            have hzb : (xa == 1) = false := by simpa using hz
            have Hnew := Lib.hid (show (at_.take (q + 1)).any (p2B x r k) = false by rw [Hst2.out, hzb]; rfl)
            clear hz Hst2
            go_wp2_with fail
            go_quiet (fail)
            go_wp2_with fail
            go_quiet (fail)
            go_wp2_with fail
            go_roundw
            case rel => exact ⟨q + 1, _, by omega, by go_num, by rw [Hnew.out], rfl⟩
            case measure => simp [intOf]; omega
          case pos =>
          subst hz
          by_cases h1 : 1 ≤ ra
          case neg =>
            have h1b : decide (1 ≤ ra) = false := by simpa using h1
            have Hnew := Lib.hid (show (at_.take (q + 1)).any (p2B x r k) = false by rw [Hst2.out, h1b]; rfl)
            have H1 := Lib.hid h1
            clear h1 Hst2
            go_wp2_with fail
            go_quiet (fail)
            go_wp2_with fail
            go_quiet (fail)
            go_wp2_with fail
            go_roundw
            case rel => exact ⟨q + 1, _, by omega, by go_num, by rw [Hnew.out], rfl⟩
            case measure => simp [intOf]; omega
          case pos =>
          have h1b : decide (1 ≤ ra) = true := by simpa using h1
          by_cases h2 : ra ≤ v
          case neg =>
            have h2b : decide (ra ≤ v) = false := by simpa using h2
            have Hnew := Lib.hid (show (at_.take (q + 1)).any (p2B x r k) = false by rw [Hst2.out, h1b, h2b]; rfl)
            clear Hst2
            go_wp2_with fail
            go_quiet (fail)
            go_wp2_with fail
            go_quiet (fail)
            go_wp2_with fail
            go_roundw
            case rel => exact ⟨q + 1, _, by omega, by go_num, by rw [Hnew.out], rfl⟩
            case measure => simp [intOf]; omega
          case pos =>
            have h2b : decide (ra ≤ v) = true := by simpa using h2
            have Hnew := Lib.hid (show (at_.take (q + 1)).any (p2B x r k) = true by rw [Hst2.out, h1b, h2b]; rfl)
            clear Hst2
            go_wp2_with fail
            go_quiet (fail)
            go_wp2_with fail
            go_quiet (fail)
            go_wp2_with fail
            go_roundw
            case rel => exact ⟨q + 1, _, by omega, by go_num, by rw [Hnew.out], rfl⟩
            case measure => simp [intOf]; omega
        case neg =>
        have hall2 : (at_.take q).any (p2B x r k) = prvB l x r k := by rw [List.take_of_length_le (by omega), Hprv2.out]
        rw [hall2]
        clear hall2
        cases hpv : prvB l x r k
        · have HF := hfail hpv
          clear hpv hgood hfail
          go_wp2_with fail
          go_ret
          exact ⟨ri HF.out.symm, endB hB3 hbl3⟩
        · have hgd := hgood hpv
          clear hpv hgood hfail
          go_wp2_with fail
          go_roundw
          case rel => exact ⟨k + 1, by omega, by go_num, hgd.out, hbl3⟩
          case measure => simp [intOf]; omega
    · go_wp2_with fail
      refine (hAtt W1 (hr3.below hbl)).mono ?_
      clear hAtt
      rintro e W2 ⟨A2, c2, rfl, _, hri2, _, hb2⟩
      have hbl2 := endB hbl hb2
      have hxw2 := hxw.below hb2
      have hrw2 := hrw.below hb2
      have hcx2 := (hb2.cell (lt_of_cell hcx)).trans hcx
      have hcr2 := (hb2.cell (lt_of_cell hcr)).trans hcr
      clear e0 e1 hcx hcr hb2
      generalize attackersL l k = at_ at *
      go_wp2_with fail
      go_loopw [8, 58] (fun h t wr => ∃ (q nd : Nat), q ≤ at_.length ∧ t = .int .i64 q ∧ h = .bool true ∧ wr = W2.drewN nd) (fun _ t _ => at_.length - (intOf t).toNat)
      case atStart => exact ⟨0, 0, Nat.zero_le _, rfl, rfl, rfl⟩
      case round =>
        obtain ⟨q, nd, hq, rfl, rfl, rfl⟩ := hrel
        have hbl3 : Below w3.heap.size w3 (W2.drewN nd) := below_drewN hbl2 nd
        by_cases hql : q < at_.length
        case pos =>
          obtain ⟨b2, o2, rfl, hc2⟩ := hri2.at_ hql
          go_wp2_with fail
          go_quiet (fail)
          go_wp2_with fail
          go_quiet (fail)
          go_wp2_with fail
          go_roundw
          case rel => exact ⟨q + 1, _, by omega, by go_num, rfl, rfl⟩
          case measure => simp [intOf]; omega
        case neg =>
        have hgd := hgood (by rw [Hprv.out, if_neg (by omega), if_neg (by omega)])
        clear hgood hfail
        go_wp2_with fail
        go_roundw
        case rel => exact ⟨k + 1, by omega, by go_num, hgd.out, hbl3⟩
        case measure => simp [intOf]; omega
end Go.Proofs.YtiljbfeipfdmdaaDoor
