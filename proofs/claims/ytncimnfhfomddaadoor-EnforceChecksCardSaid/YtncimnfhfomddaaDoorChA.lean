import Derived.Test.YtncimnfhfomddaaDoorPvW
import Derived.Test.YtncimnfhfomddaaDoorRcA
import Derived.Test.YtncimnfhfomddaaDoorLov
import Derived.Test.YtncimnfhfomddaaDoorRdW
import Derived.Test.YtncimnfhfomddaaDoorSpo
/- ref21: covers, proves. -/
namespace Go.Proofs.YtncimnfhfomddaaDoor
open Go.ChangeShapes Go.WideShapes Go.ChangeAt Go.RowKit

theorem covB_nil (l : List (Int × Int)) : covB l [] = true := rfl
theorem covB_step (l d : List (Int × Int)) {j : Nat} (h : j < d.length) : covB l (d.take (j + 1)) = (covB l (d.take j) && hasB l d[j].1 d[j].2) := by
  unfold covB
  rw [any_stepE _ _ h]
  simp only [Bool.not_or, Bool.not_not]
set_option maxRecDepth 100000 in
set_option maxHeartbeats 4000000 in
theorem rCovers_any (A B : Option Addr) (l : List (Int × Int)) (L : List (List (Int × Int))) (c cd : Nat) (w : World) (hr : RP w A l) (hl : l.length ≤ 100000) (hd : RTo w B L) (hld : L.length ≤ 1000000) (hll : ∀ d ∈ L, d.length ≤ 100000) :
    Calls Tryd.prog 104 #[.slice A l.length c, .slice B L.length cd] w (RetB (.bool (L.any (covB l))) w) := by
  have Hll := Lib.hid hll
  clear hll
  go_enter Tryd.func104, Tryd.ntmps104
  go_wp2_with fail
  go_loopw [5] (fun i wr => ∃ k : Nat, k ≤ L.length ∧ i = .int .i64 k ∧ (L.take k).any (covB l) = false ∧ Below w.heap.size w wr) (fun i _ => L.length - (intOf i).toNat)
  case atStart => exact ⟨0, Nat.zero_le _, rfl, by simp, Below.refl _ _⟩
  case round =>
    obtain ⟨k, hk, rfl, hi, hbl⟩ := hrel
    have Hi := Lib.hid hi; clear hi
    by_cases hlt : k < L.length
    case neg =>
      have hall : (L.any (covB l)) = false := by have := Hi.out; rwa [List.take_of_length_le (by omega)] at this
      have Hall := Lib.hid hall
      clear hall
      go_wp2_with fail
      go_ret
      exact ⟨rb Hall.out.symm, hbl⟩
    case pos =>
    obtain ⟨b, o, AX, cx, rfl, hc0, hri⟩ := (hd.below hbl) k hlt
    have hstp := any_stepE (covB l) L hlt
    rw [Hi.out, Bool.false_or] at hstp
    have hany : covB l L[k] = true → L.any (covB l) = true := fun h => List.any_eq_true.2 ⟨_, List.getElem_mem hlt, h⟩
    have hlx := Hll.out _ (List.getElem_mem hlt)
    obtain ⟨d, hdd⟩ : ∃ d, L[k] = d := ⟨_, rfl⟩
    rw [hdd] at hc0 hri hstp hany hlx
    have Hstp := Lib.hid hstp; have Hany := Lib.hid hany
    clear hstp hany hdd
    obtain ⟨wo, hwo⟩ : ∃ wo, wo = wr := ⟨_, rfl⟩
    subst hwo
    go_wp2_with fail
    go_loopw [6, 7] (fun v i wr => ∃ j : Nat, j ≤ d.length ∧ v = .bool (covB l (d.take j)) ∧ i = .int .i64 j ∧ Below wo.heap.size wo wr) (fun _ i _ => d.length - (intOf i).toNat)
    case atStart => exact ⟨0, Nat.zero_le _, rfl, rfl, Below.refl _ _⟩
    case round =>
      obtain ⟨j, hj, rfl, rfl, hbx⟩ := hrel
      have hcx := (hbx.cell (p := ⟨b, o + k, none⟩) (lt_of_cell hc0)).trans hc0
      have hbw := endB hbl hbx
      by_cases hjl : j < d.length
      case pos =>
        have hst := covB_step l d hjl
        obtain ⟨b', o', rfl, hp0, hp1⟩ := (hri.below hbx).at_ hjl
        have hH := rHas_any A l c d[j].1 d[j].2 wr (hr.below hbw) hl
        obtain ⟨u, hu⟩ : ∃ u, covB l (d.take j) = u := ⟨_, rfl⟩
        obtain ⟨x, hx⟩ : ∃ x, hasB l d[j].1 d[j].2 = x := ⟨_, rfl⟩
        rw [hu, hx] at hst
        rw [hx] at hH
        rw [hu]
        have Hst := Lib.hid hst; have HH := Lib.hid hH
        clear hst hH hu hx
        cases u
        case false =>
          go_wp2_with fail
          go_roundw
          case rel => exact ⟨j + 1, hjl, by rw [Hst.out]; rfl, by go_num, hbx⟩
          case measure => simp [intOf]; omega
        case true =>
          go_wp2_with fail
          refine HH.out.mono ?_
          rintro e w1 ⟨rfl, hb1⟩
          go_wp2_with fail
          go_roundw
          case rel => exact ⟨j + 1, hjl, by rw [Hst.out, Bool.true_and], by go_num, endB hbx hb1⟩
          case measure => simp [intOf]; omega
      case neg =>
        obtain rfl : j = d.length := by omega
        have hst := Hstp.out; have ha := Hany.out
        rw [List.take_length]
        obtain ⟨u, hu⟩ : ∃ u, covB l d = u := ⟨_, rfl⟩
        rw [hu] at hst ha
        rw [hu]
        have Hst := Lib.hid hst; have Ha := Lib.hid ha
        clear hst ha hu
        cases u
        case false =>
          go_wp2_with fail
          go_roundw
          case rel => exact ⟨k + 1, hlt, by go_num, Hst.out, hbw⟩
          case measure => simp [intOf]; omega
        case true =>
          go_wp2_with fail
          go_ret
          exact ⟨rb (Ha.out trivial).symm, hbw⟩
set_option maxRecDepth 100000 in
set_option maxHeartbeats 8000000 in
theorem rProves_any (A : Option Addr) (n : Nat) (G : List (Int × Int)) (c : Nat) (kind : Int) (AC : Option Addr) (s : List Int) (cC : Nat) (AH : Option Addr) (C : List (Int × Int)) (cH : Nat) (AO : Option Addr) (O : List (List (Int × Int))) (cO : Nat) (w : World)
    (hr : RP w A G) (hv : Vld n G) (hs : RI w AC s) (hst : setB n s = true) (hkd : kind = 1 ∨ kind = 2) (hO : RTo w AO O) (hOl : O.length ≤ 1000000) (_hCl : C.length ≤ 1000000) (hOf : O.flatten.length ≤ 100000) :
    Calls Tryd.prog 54 #[.agg #[.int .i64 (n : Int), .slice A G.length c], .int .i64 kind, .agg #[.slice AC s.length cC, .slice AH C.length cH, .slice AO O.length cO]] w (RetB (.bool (prB n G s kind C O)) w) := by
  have hLl : (dutL n G s kind).length ≤ 200000 := by
    unfold dutL
    have h1 := dutA_len (maskN s) G
    have h2 := hv.1.2.1
    have h3 := dutB_len n G s kind n
    have h4 := hv.1.1
    unfold dutB at h3
    rw [List.length_append]
    omega
  have hLs : ∀ d ∈ dutL n G s kind, d.length ≤ 100000 := fun d hd => by
    rw [← dutR_eq hv.1 hst hkd] at hd
    have h5 := setB_len hst
    have h4 := hv.1.1
    rcases mem_dutR.1 hd with ⟨p, _, _, _, rfl⟩ | ⟨a, _, _, _, _, rfl⟩
    · simp
    · have := dyR_len G kind a s; omega
  have hGl : G.length ≤ 100000 := by have := len_of_vld hv; omega
  have hsl : s.length ≤ 1000 := by have := setB_len hst; have := hv.1.1; omega
  have hnl : n ≤ 1000 := by have := hv.1.1; omega
  have hdu := fun w hr hs => rDuties_any A n G c AC s cC kind w hr hGl hs hsl hnl
  rw [dutR_eq hv.1 hst hkd] at hdu
  have hpr : ∀ b, (O.length = C.length → O.flatten.Nodup → b = O.all fun l => (dutL n G s kind).any (covB l)) → (¬ (O.length = C.length ∧ O.flatten.Nodup) → b = false) → b = prB n G s kind C O := fun b h1 h2 => by
    unfold prB
    by_cases e1 : O.length = C.length <;> by_cases e2 : O.flatten.Nodup
    · rw [decide_eq_true e1, decide_eq_true e2]; exact h1 e1 e2
    · rw [decide_eq_false e2]; simp [h2 (fun h => e2 h.2)]
    · rw [decide_eq_false e1]; simp [h2 (fun h => e1 h.1)]
    · rw [decide_eq_false e1]; simp [h2 (fun h => e1 h.1)]
  generalize dutL n G s kind = L at *
  generalize prB n G s kind C O = res at *
  have Hdu := Lib.hid hdu; have Hpr := Lib.hid hpr; have HLs := Lib.hid hLs
  clear hdu hpr hLs hst hv
  go_enter Tryd.func54, Tryd.ntmps54
  go_upto_region 1 with fail
  obtain ⟨W0, hW, k0, hb0, hs0⟩ := boxG w (n : Int) A G.length c
  rw [hW]
  obtain ⟨W1, hW1, k1, hb1, hs1'⟩ := boxEn W0 (.slice AC s.length cC) (.slice AH C.length cH) (.slice AO O.length cO)
  rw [hW1]
  have hb01 := endB hb0 hb1
  have k01 := k0.below hb1 k0.lt
  rw [hs0] at k1
  clear hW hW1 k0 hb0 hb1 hs1'
  obtain ⟨n0, n1, n2, _, _⟩ := k1.threeE
  obtain ⟨c0, c1, _, _⟩ := k01.two
  go_wp2_with fail
  refine (Hdu.out W1 (hr.below hb01) (hs.below hb01)).mono ?_
  rintro e w2 ⟨AL, cL, xs, rfl, _, _, _, hLo, hb2⟩
  have hbb2 := endB hb01 hb2
  have k12 := k1.below hb2 k1.lt
  clear n0 n1 n2 c0 c1 k01 k1 hb2 hb01
  obtain ⟨W2, hW2⟩ : ∃ W2, W2 = w2 := ⟨_, rfl⟩
  subst hW2
  have hB2 : w.heap.size ≤ W2.heap.size := hbb2.size
  clear hs0
  go_wp2_with fail
  go_loopw [8, 9] (fun v i wr => ∃ (k : Nat) (A8 : Option Addr) (c8 : Nat), k ≤ O.length ∧ v = .slice A8 (O.take k).flatten.length c8 ∧ i = .int .i64 k ∧ (O.take k).flatten.Nodup ∧ ((O.take k).all fun l => L.any (covB l)) = true ∧ OwnP wr W2.heap.size (.slice A8 (O.take k).flatten.length c8) (O.take k).flatten ∧ Below W2.heap.size W2 wr) (fun _ i _ => O.length - (intOf i).toNat)
  case atStart => exact ⟨0, none, 0, Nat.zero_le _, rfl, rfl, by simp, by simp, OwnP.nil _ _, Below.refl _ _⟩
  case round =>
    obtain ⟨k, A8, c8, hk, rfl, rfl, hnd, hall, ho8, hbw⟩ := hrel
    have k1w := k12.below hbw k12.lt
    obtain ⟨n0, n1, n2, _, _⟩ := k1w.threeE
    have Hnd := Lib.hid hnd; have Ho8 := Lib.hid ho8; have Hall := Lib.hid hall
    have hbb := endB hbb2 hbw
    clear hnd ho8 hall
    by_cases hlt : k < O.length
    case pos =>
      obtain ⟨b, o, AX, cx, rfl, hcw, hri⟩ := hO k hlt
      have hc0 := (hbb.cell (p := ⟨b, o + k, none⟩) (lt_of_cell hcw)).trans hcw
      have hfs := flat_step hlt
      have hfl := flat_le O (k + 1)
      have hbad := fun h => flat_bad (O := O) (k := k + 1) h
      have hstp := fun h => all_take_succ (p := fun l => L.any (covB l)) hlt Hall.out h
      have hbad2 := fun h => all_take_bad (p := fun l => L.any (covB l)) hlt h
      rw [hfs] at hfl hbad
      obtain ⟨F, hF⟩ : ∃ F, (O.take k).flatten = F := ⟨_, rfl⟩
      obtain ⟨d, hdd⟩ : ∃ d, O[k] = d := ⟨_, rfl⟩
      rw [hdd] at hc0 hcw hri hfs hfl hbad hstp hbad2
      rw [hF] at hfs hfl hbad
      have hnd := Hnd.out; have ho8 := Ho8.out
      rw [hF] at hnd ho8
      rw [hF]
      have Hcw := Lib.hid hcw
      clear Hnd Ho8 hdd hF hcw Hall
      have Hnd := Lib.hid hnd; have Ho8 := Lib.hid ho8; have Hfs := Lib.hid hfs; have Hbad := Lib.hid hbad; have Hri := Lib.hid hri; have Hstp := Lib.hid hstp; have Hbad2 := Lib.hid hbad2
      rw [List.length_append] at hfl
      have hfl2 : F.length + d.length ≤ 100000 := Nat.le_trans hfl hOf
      clear hfs hbad hnd ho8 hfl hstp hbad2 hri
      obtain ⟨wo, hwo⟩ : ∃ wo, wo = wr := ⟨_, rfl⟩
      subst hwo
      go_wp2_with fail
      go_loopw [8, 10] (fun v i wr => ∃ (j : Nat) (A8 : Option Addr) (c8 : Nat), j ≤ d.length ∧ v = .slice A8 (F ++ d.take j).length c8 ∧ i = .int .i64 j ∧ (F ++ d.take j).Nodup ∧ OwnP wr W2.heap.size (.slice A8 (F ++ d.take j).length c8) (F ++ d.take j) ∧ Below W2.heap.size W2 wr) (fun _ i _ => d.length - (intOf i).toNat)
      case atStart => exact ⟨0, A8, c8, Nat.zero_le _, by simp, rfl, by simpa using Hnd.out, by simpa using Ho8.out, hbw⟩
      case round =>
        clear Ho8 Hnd hc0 n0 n1 n2 k1w
        obtain ⟨j, A9, c9, hj, rfl, rfl, hnd, ho9, hbx⟩ := hrel
        have k1x := k12.below hbx k12.lt
        have hbbx := endB hbb2 hbx
        obtain ⟨n0, n1, n2, _, _⟩ := k1x.threeE
        have hcw := (hbbx.cell (p := ⟨b, o + k, none⟩) (lt_of_cell Hcw.out)).trans Hcw.out
        obtain ⟨R, hR⟩ : ∃ R, F ++ d.take j = R := ⟨_, rfl⟩
        have hRl : R.length = F.length + j := by rw [← hR, List.length_append, List.length_take]; omega
        rw [hR] at hnd ho9 ⊢
        have Hnd := Lib.hid hnd; have Ho9 := Lib.hid ho9
        have hRl6 : R.length ≤ 100000 := by omega
        clear hnd ho9 hRl
        by_cases hjl : j < d.length
        case pos =>
          have hnx : F ++ d.take (j + 1) = R ++ [d[j]] := by rw [List.take_succ_eq_append_getElem hjl, ← hR, List.append_assoc]
          have hdup : d[j] ∈ R → ¬ (F ++ d).Nodup := fun h => by
            have e : F ++ d = R ++ (d[j] :: d.drop (j + 1)) := by
              rw [← hR, List.append_assoc, ← List.drop_eq_getElem_cons hjl, List.take_append_drop]
            rw [e]; exact not_nodup_snoc h
          obtain ⟨b', o', rfl, hp0, hp1⟩ := (Hri.out.below hbbx).at_ hjl
          have hhb := hasB_iff (l := R) (f := d[j].1) (t := d[j].2)
          have hsn : d[j] ∉ R → (R ++ [d[j]]).Nodup := fun h => nodup_snoc Hnd.out h
          obtain ⟨p, hp⟩ : ∃ p, d[j] = p := ⟨_, rfl⟩
          rw [hp] at hnx hdup hhb hsn hp0 hp1
          obtain ⟨x, y⟩ := p
          simp only at hhb hp0 hp1
          have hH := rHas_any A9 R c9 x y wr Ho9.out.rp' hRl6
          obtain ⟨u, hu⟩ : ∃ u, hasB R x y = u := ⟨_, rfl⟩
          rw [hu] at hH hhb
          have HH := Lib.hid hH; have Hnx := Lib.hid hnx; have Hsn := Lib.hid hsn; have Hdup := Lib.hid hdup; have Hhb := Lib.hid hhb
          clear hH hnx hsn hdup hhb hu hp hR
          go_wp2_with fail
          refine HH.out.mono ?_
          rintro e w3 ⟨rfl, hb3⟩
          have hbx3 := hbx.trans (hb3.mono hbx.size)
          have k1y := k12.below hbx3 k12.lt
          have hbb3 := endB hbb2 hbx3
          have Ho3 := Lib.hid (ownsRow_below Ho9.out hb3)
          have hcw3 := (hbb3.cell (p := ⟨b, o + k, none⟩) (lt_of_cell Hcw.out)).trans Hcw.out
          have hp03 := (hb3.cell (lt_of_cell hp0)).trans hp0
          have hp13 := (hb3.cell (lt_of_cell hp1)).trans hp1
          clear n0 n1 n2 hcw hp0 hp1 k1x
          obtain ⟨n0, n1, n2, _, _⟩ := k1y.threeE
          cases u
          case true =>
            have hz := Hbad.out (Hdup.out (Hhb.out.1 rfl))
            have Hz := Lib.hid hz
            clear hz
            go_wp2_with fail
            go_ret
            exact ⟨rb (Hpr.out false (fun _ h => absurd h Hz.out) (fun _ => rfl)), hbb3⟩
          case false =>
            have hz := Hsn.out (fun h => by have := Hhb.out.2 h; cases this)
            have Hz := Lib.hid hz
            clear hz
            have hW3 : W2.heap.size ≤ w3.heap.size := hbx3.size
            have hR6 : R.length ≤ 1000000 := by omega
            go_wp2_with (at_builtin; go_loud (refine wpList_appP2 (by rfl) _ _ (by rfl) w3 W2.heap.size _ R x y Ho3.out (by rfl) (by rfl) (by rfl) hR6 hW3 ?_); intro v' w5 hown5 hb5 hg5; (obtain ⟨A5, c5, rfl, _, _⟩ := OwnP.form hown5); have Hown5 := Lib.hid hown5; have Hb5 := Lib.hid hb5; clear hown5 hb5 hg5)
            go_roundw
            case rel => exact ⟨j + 1, A5, c5, hjl, by rw [Hnx.out]; simp, by go_num, by rw [Hnx.out]; exact Hz.out, by rw [Hnx.out]; exact Hown5.out, hbx3.trans Hb5.out⟩
            case measure => simp [intOf]; omega
        case neg =>
          obtain rfl : j = d.length := by omega
          rw [List.take_length] at hR
          subst hR
          have hdl : d.length ≤ 100000 := by omega
          have hC := rCovers_any AX AL d L cx cL wr (Hri.out.below hbbx) hdl (hLo.below hbx) (by omega) HLs.out
          have hstp := Hstp.out; have hbad2 := Hbad2.out
          obtain ⟨u, hu⟩ : ∃ u, L.any (covB d) = u := ⟨_, rfl⟩
          rw [hu] at hC hstp hbad2
          have HC := Lib.hid hC; have Hs2 := Lib.hid hstp; have Hb2 := Lib.hid hbad2
          clear hC hstp hbad2 hu
          go_wp2_with fail
          refine HC.out.mono ?_
          rintro e w3 ⟨rfl, hb3⟩
          have hbx3 := hbx.trans (hb3.mono hbx.size)
          have Ho3 := Lib.hid (ownsRow_below Ho9.out hb3)
          clear n0 n1 n2 hcw
          cases u
          case true =>
            have hz := Hs2.out rfl
            have Hz := Lib.hid hz
            clear hz
            go_wp2_with fail
            go_roundw
            case rel => exact ⟨k + 1, A9, c9, hlt, by rw [Hfs.out]; simp, by go_num, by rw [Hfs.out]; exact Hnd.out, Hz.out, by rw [Hfs.out]; exact Ho3.out, hbx3⟩
            case measure => simp [intOf]; omega
          case false =>
            have hz := Hb2.out rfl
            have Hz := Lib.hid hz
            clear hz
            go_wp2_with fail
            go_ret
            exact ⟨rb (Hpr.out false (fun _ _ => Hz.out.symm) (fun _ => rfl)), endB hbb2 hbx3⟩
    case neg =>
      obtain rfl : k = O.length := by omega
      have hnd := Hnd.out; have hall := Hall.out
      rw [List.take_length] at hnd hall
      have Hnd2 := Lib.hid hnd; have Hall2 := Lib.hid hall
      clear hnd hall Ho8 Hnd Hall
      obtain ⟨r8, hr8⟩ : ∃ r, (O.take O.length).flatten.length = r := ⟨_, rfl⟩
      rw [hr8]
      clear hr8
      by_cases hlen : O.length = C.length
      case pos =>
        have hd : (((O.length : Nat) : Int) == ((C.length : Nat) : Int)) = true := by simp; omega
        have Hlen := Lib.hid hlen
        clear hlen
        go_wp2_with fail
        go_ret
        exact ⟨rb (Hpr.out true (fun _ _ => Hall2.out.symm) (fun h => absurd ⟨Hlen.out, Hnd2.out⟩ h)), hbb⟩
      case neg =>
        have hd : (((O.length : Nat) : Int) == ((C.length : Nat) : Int)) = false := by simp; omega
        have Hlen := Lib.hid hlen
        clear hlen
        go_wp2_with fail
        go_ret
        exact ⟨rb (Hpr.out false (fun h _ => absurd h Hlen.out) (fun _ => rfl)), hbb⟩
end Go.Proofs.YtncimnfhfomddaaDoor

/- ref21.Check, law21.light. -/
namespace Go.Proofs.YtncimnfhfomddaaDoor
open Go.ChangeShapes Go.WideShapes Go.ChangeAt Go.RowKit

set_option maxRecDepth 100000 in
set_option maxHeartbeats 4000000 in
theorem rCheck_any (A : Option Addr) (N : Int) (G : List (Int × Int)) (c : Nat) (kind : Int) (AC : Option Addr) (s : List Int) (cC : Nat) (AH : Option Addr) (C : List (Int × Int)) (cH : Nat) (AO : Option Addr) (O : List (List (Int × Int))) (cO : Nat) (w : World)
    (hr : RP w A G) (hl : G.length + C.length ≤ 100000) (hs : RI w AC s) (hls : s.length ≤ 100000) (hH : RP w AH C) (hO : RTo w AO O) (hOl : O.length ≤ 1000000) (hOf : O.flatten.length ≤ 100000) (hA : A = none → G = [] ∧ c = 0) (hGc : G.length ≤ c) (hCc : C.length ≤ cH) :
    Calls Tryd.prog 21 #[.agg #[.int .i64 N, .slice A G.length c], .int .i64 kind, .agg #[.slice AC s.length cC, .slice AH C.length cH, .slice AO O.length cO]] w (RetB (.int .i64 (chkE N G kind s C O)) w) := by
  obtain ⟨r, hre⟩ : ∃ r, chkE N G kind s C O = r := ⟨_, rfl⟩
  rw [hre]
  unfold chkE at hre
  have Hre := Lib.hid hre; have HA := Lib.hid hA
  clear hre hA
  go_enter Tryd.func21, Tryd.ntmps21
  go_upto_region 1 with fail
  obtain ⟨W0, hW, k0, hb0, hs0⟩ := boxG w N A G.length c
  rw [hW]
  obtain ⟨W1, hW1, k1, hb1, hs1'⟩ := boxEn W0 (.slice AC s.length cC) (.slice AH C.length cH) (.slice AO O.length cO)
  rw [hW1]
  have hb01 := endB hb0 hb1
  have k01 := k0.below hb1 k0.lt
  rw [hs0] at k1
  clear hW hW1 k0 hb0 hb1 hs0 hs1'
  obtain ⟨c0, c1, _, _⟩ := k01.two
  obtain ⟨n0, n1, n2, _, _⟩ := k1.threeE
  go_wp2_with fail
  refine (rPos_any A N G c AC s cC kind W1 (hr.below hb01) (by omega) (hs.below hb01) hls).mono ?_
  rintro e w2 ⟨rfl, hb2⟩
  have hbb2 := endB hb01 hb2
  have k12 := k1.below hb2 k1.lt
  have k02 := k01.below hb2 k01.lt
  clear c0 c1 n0 n1 n2 k1 k01 hb01 hb2
  obtain ⟨c0, c1, _, _⟩ := k02.two
  obtain ⟨n0, n1, n2, _, _⟩ := k12.threeE
  by_cases ha : arE N G s kind = 0
  case neg =>
    have hd : (arE N G s kind != 0) = true := by simp [ha]
    have hre := Hre.out
    rw [if_neg ha] at hre
    have Hre := Lib.hid hre
    clear hre ha
    go_wp2_with fail
    go_ret
    exact ⟨ri Hre.out, hbb2⟩
  have hd : (arE N G s kind != 0) = false := by simp [ha]
  have hre := Hre.out
  rw [if_pos ha] at hre
  obtain ⟨hv0, hk, hsb⟩ := arE_ok ha
  obtain ⟨n, rfl, hv⟩ := vld_of_valE hv0 (by omega)
  rw [Int.toNat_natCast] at hre
  have Hre := Lib.hid hre; have Hv := Lib.hid hv; have Hk := Lib.hid hk; have Hsb := Lib.hid hsb
  clear hre ha hv0 hk hsb hv
  go_wp2_with fail
  refine (rToggle_any A AH (n : Int) G C c cH w2 (hr.below hbb2) (hH.below hbb2) hl HA.out hGc hCc).mono ?_
  rintro e w3 ⟨A3, c3, rfl, hr3, _, _, hb3⟩
  have hbb3 := endB hbb2 hb3
  have k13 := k12.below hb3 k12.lt
  have k03 := k02.below hb3 k02.lt
  clear c0 c1 n0 n1 n2 k12 k02 hbb2 hb3
  by_cases he : tgErr n G C = 0
  case neg =>
    have hd2 : (tgErr n G C != 0) = true := by simp [he]
    have hre := Hre.out
    rw [if_neg he] at hre
    have Hre := Lib.hid hre
    obtain ⟨nn, hnn⟩ : ∃ nn, tgN (n : Int) G C = nn := ⟨_, rfl⟩
    obtain ⟨ln, hln⟩ : ∃ ln, (tgG (n : Int) G C).length = ln := ⟨_, rfl⟩
    rw [hnn, hln]
    clear hre he hnn hln hr3
    go_wp2_with fail
    go_ret
    exact ⟨ri Hre.out, endB hbb3 (newB _ _)⟩
  have hd2 : (tgErr n G C != 0) = false := by simp [he]
  have hre := Hre.out
  rw [if_pos he] at hre
  have htn : tgN (n : Int) G C = n := by unfold tgN; rw [if_pos he]
  have htg : tgG (n : Int) G C = tgL G C := by unfold tgG; rw [if_pos he]
  have hvt := tgL_vld Hv.out (by unfold tgErr at he; split at he; exact he; rename_i h; exact absurd he h) hl
  rw [htn, htg]
  rw [htg] at hr3
  have Hre := Lib.hid hre
  clear hre he htn htg
  obtain ⟨T, hTT⟩ : ∃ T, tgL G C = T := ⟨_, rfl⟩
  rw [hTT] at hr3 hvt ⊢
  have hre := Hre.out
  rw [hTT] at hre
  have Hre := Lib.hid hre; have Hvt := Lib.hid hvt
  clear hre hTT hvt
  obtain ⟨W4, hW4, k4, hb4, hs4⟩ := boxG w3 (n : Int) A3 T.length c3
  have hr4 := hr3.below hb4
  have hbb4 := endB hbb3 hb4
  have k14 := k13.below hb4 k13.lt
  have k04 := k03.below hb4 k03.lt
  have hTl : T.length ≤ 100000 := by have := len_of_vld Hvt.out; omega
  have hsl : s.length ≤ 100000 := hls
  have hn1 : n ≤ 100000 := by have := Hvt.out.1.1; omega
  have hac := rAcc_any A3 n T c3 AC s cC kind W4 hr4 hTl (hs.below hbb4) hsl hn1
  rw [accR_eq Hvt.out.1 Hsb.out Hk.out] at hac
  obtain ⟨b, hbb⟩ : ∃ b, acB n T s kind = b := ⟨_, rfl⟩
  rw [hbb] at hac
  have hre := Hre.out
  rw [hbb] at hre
  have Hac := Lib.hid hac; have Hre := Lib.hid hre
  clear hac hbb hre hb4 hbb3 hr3 hr4 k13 k03 hs4
  obtain ⟨c0, c1, _, _⟩ := k04.two
  obtain ⟨n0, n1, n2, _, _⟩ := k14.threeE
  obtain ⟨t0, t1, _, _⟩ := k4.two
  go_wp2_with fail
  refine Hac.out.mono ?_
  rintro e w5 ⟨rfl, hb5⟩
  have hbb5 := endB hbb4 hb5
  have k15 := k14.below hb5 k14.lt
  have k05 := k04.below hb5 k04.lt
  clear c0 c1 n0 n1 n2 t0 t1 k14 k04 k4 hb5 hbb4 hW4
  cases b
  case false =>
    have hre := Hre.out
    rw [if_neg (by decide)] at hre
    have Hre := Lib.hid hre
    clear hre
    go_wp2_with fail
    go_ret
    exact ⟨ri Hre.out, hbb5⟩
  have hre := Hre.out
  rw [if_pos rfl] at hre
  have hpv := rProves_any A n G c kind AC s cC AH C cH AO O cO w5 (hr.below hbb5) Hv.out (hs.below hbb5) Hsb.out Hk.out (hO.below hbb5) hOl (by omega) hOf
  obtain ⟨b, hbb⟩ : ∃ b, prB n G s kind C O = b := ⟨_, rfl⟩
  rw [hbb] at hpv hre
  have Hpv := Lib.hid hpv; have Hre := Lib.hid hre
  clear hpv hre hbb
  obtain ⟨c0, c1, _, _⟩ := k05.two
  obtain ⟨n0, n1, n2, _, _⟩ := k15.threeE
  go_wp2_with fail
  refine Hpv.out.mono ?_
  rintro e w6 ⟨rfl, hb6⟩
  have hbb6 := endB hbb5 hb6
  clear c0 c1 n0 n1 n2 k15 k05 hb6 hbb5
  cases b
  case false =>
    have hre := Hre.out
    rw [if_neg (by decide)] at hre
    have Hre := Lib.hid hre
    clear hre
    go_wp2_with fail
    go_ret
    exact ⟨ri Hre.out, hbb6⟩
  case true =>
    have hre := Hre.out
    rw [if_pos rfl] at hre
    have Hre := Lib.hid hre
    clear hre
    go_wp2_with fail
    go_ret
    exact ⟨ri Hre.out, hbb6⟩
/-- how many numbers an enforcement holds is bounded -/
def ligB (s : List Int) (C : List (Int × Int)) (O : List (List (Int × Int))) : Bool := decide (s.length + C.length + O.flatten.length ≤ 200 ∧ O.length ≤ 60)
set_option maxRecDepth 100000 in
set_option maxHeartbeats 2000000 in
theorem light_any (AC : Option Addr) (s : List Int) (cC : Nat) (AH : Option Addr) (C : List (Int × Int)) (cH : Nat) (AO : Option Addr) (O : List (List (Int × Int))) (cO : Nat) (w : World) (hO : RTo w AO O) (hs : s.length ≤ 1000000000000000) (hC : C.length ≤ 1000000000000000) (hOl : O.length ≤ 1000000000000) (hOf : O.flatten.length ≤ 100000000000000000) :
    Calls Tryd.prog 12 #[.agg #[.slice AC s.length cC, .slice AH C.length cH, .slice AO O.length cO]] w (RetB (.bool (ligB s C O)) w) := by
  go_enter Tryd.func12, Tryd.ntmps12
  go_upto_region 1 with fail
  obtain ⟨W1, hW1, k1, hb1, hs1'⟩ := boxEn w (.slice AC s.length cC) (.slice AH C.length cH) (.slice AO O.length cO)
  rw [hW1]
  clear hW1
  obtain ⟨n0, n1, n2, _, _⟩ := k1.threeE
  go_wp2_with fail
  go_loopw [3, 4] (fun v i wr => ∃ k : Nat, k ≤ O.length ∧ v = .int .i64 ((s.length + C.length + (O.take k).flatten.length : Nat) : Int) ∧ i = .int .i64 k ∧ wr = W1) (fun _ i _ => O.length - (intOf i).toNat)
  case atStart => exact ⟨0, Nat.zero_le _, by go_num, rfl, rfl⟩
  case round =>
    obtain ⟨k, hk, rfl, rfl, rfl⟩ := hrel
    have hfk := flat_le O k
    by_cases hlt : k < O.length
    case pos =>
      obtain ⟨b, o, AX, cx, rfl, hc0, _⟩ := (hO.below hb1) k hlt
      have hfs := flat_step hlt
      have hfl := flat_le O (k + 1)
      rw [hfs, List.length_append] at hfl
      obtain ⟨m, hm⟩ : ∃ m, (O.take k).flatten.length = m := ⟨_, rfl⟩
      obtain ⟨q, hq⟩ : ∃ q, O[k].length = q := ⟨_, rfl⟩
      have hfn : (O.take (k + 1)).flatten.length = m + q := by rw [hfs, List.length_append, hm, hq]
      rw [hq] at hc0
      rw [hm, hq] at hfl
      rw [hm]
      rw [hm] at hfk
      have Hfn := Lib.hid hfn
      clear hfs hfn hq hm
      go_wp2_with fail
      go_roundw
      case rel => exact ⟨k + 1, hlt, by rw [Hfn.out]; go_num, by go_num, trivial⟩
      case measure => simp [intOf]; omega
    case neg =>
      obtain rfl : k = O.length := by omega
      rw [List.take_length] at hfk ⊢
      obtain ⟨m, hm⟩ : ∃ m, s.length + C.length + O.flatten.length = m := ⟨_, rfl⟩
      have hlg : ligB s C O = decide (m ≤ 200 ∧ O.length ≤ 60) := by unfold ligB; rw [hm]
      have Hlg := Lib.hid hlg
      rw [hm]
      clear hm hlg hfk
      by_cases h1 : m ≤ 200
      · by_cases h2 : O.length ≤ 60
        · have hd1 : decide ((m : Int) ≤ 200) = true := by simp; omega
          have hd2 : decide ((O.length : Int) ≤ 60) = true := by simp; omega
          go_wp2_with fail
          go_ret
          exact ⟨rb (by rw [Hlg.out, decide_eq_true ⟨h1, h2⟩]), hb1⟩
        · have hd1 : decide ((m : Int) ≤ 200) = true := by simp; omega
          have hd2 : decide ((O.length : Int) ≤ 60) = false := by simp; omega
          go_wp2_with fail
          go_ret
          exact ⟨rb (by rw [Hlg.out, decide_eq_false (fun h => h2 h.2)]), hb1⟩
      · have hd1 : decide ((m : Int) ≤ 200) = false := by simp; omega
        go_wp2_with fail
        go_ret
        exact ⟨rb (by rw [Hlg.out, decide_eq_false (fun h => h1 h.1)]), hb1⟩
end Go.Proofs.YtncimnfhfomddaaDoor

/- law21.light at any enforcement. -/
namespace Go.Proofs.YtncimnfhfomddaaDoor
open Go.ChangeShapes Go.WideShapes Go.ChangeAt Go.RowKit

theorem flat_lenL {α : Type} {L : List (List α)} {m : Nat} (h : ∀ l ∈ L, l.length ≤ m) : L.flatten.length ≤ L.length * m := by
  induction L with
  | nil => simp
  | cons a L ih =>
    rw [List.flatten_cons, List.length_append, List.length_cons, Nat.succ_mul]
    have h1 := h a (by simp)
    have h2 := ih (fun l hl => h l (List.mem_cons_of_mem _ hl))
    omega
set_option maxRecDepth 100000 in
set_option maxHeartbeats 2000000 in
theorem light_many (AC : Option Addr) (s : List Int) (cC : Nat) (AH : Option Addr) (C : List (Int × Int)) (cH : Nat) (AO : Option Addr) (O : List (List (Int × Int))) (cO : Nat) (w : World) (hO : RTo w AO O) (hs : s.length ≤ 1000000000000000) (hC : C.length ≤ 1000000000000000) (hOl : 60 < O.length) (hOm : O.length ≤ 9223372036854775807) :
    Calls Tryd.prog 12 #[.agg #[.slice AC s.length cC, .slice AH C.length cH, .slice AO O.length cO]] w (RetB (.bool false) w) := by
  go_enter Tryd.func12, Tryd.ntmps12
  go_upto_region 1 with fail
  obtain ⟨W1, hW1, k1, hb1, hs1'⟩ := boxEn w (.slice AC s.length cC) (.slice AH C.length cH) (.slice AO O.length cO)
  rw [hW1]
  clear hW1
  obtain ⟨n0, n1, n2, _, _⟩ := k1.threeE
  go_wp2_with fail
  go_loopw [3, 4] (fun v i wr => ∃ k : Nat, k ≤ O.length ∧ (∃ z : Int, v = .int .i64 z) ∧ i = .int .i64 k ∧ wr = W1) (fun _ i _ => O.length - (intOf i).toNat)
  case atStart => exact ⟨0, Nat.zero_le _, ⟨_, rfl⟩, rfl, rfl⟩
  case round =>
    obtain ⟨k, hk, ⟨z, rfl⟩, rfl, rfl⟩ := hrel
    by_cases hlt : k < O.length
    case pos =>
      obtain ⟨b, o, AX, cx, rfl, hc0, _⟩ := (hO.below hb1) k hlt
      obtain ⟨q, hq⟩ : ∃ q, O[k].length = q := ⟨_, rfl⟩
      rw [hq] at hc0
      clear hq
      go_wp2_with fail
      go_roundw
      case rel => exact ⟨k + 1, hlt, ⟨_, rfl⟩, by go_num, trivial⟩
      case measure => simp [intOf]; omega
    case neg =>
      obtain rfl : k = O.length := by omega
      have hd2 : decide ((O.length : Int) ≤ 60) = false := by simp; omega
      cases hd1 : decide (z ≤ 200)
      case false =>
        go_wp2_with fail
        go_ret
        exact ⟨rfl, hb1⟩
      case true =>
        go_wp2_with fail
        go_ret
        exact ⟨rfl, hb1⟩
/-- light: true of few numbers only -/
theorem light_all (AC : Option Addr) (s : List Int) (cC : Nat) (AH : Option Addr) (C : List (Int × Int)) (cH : Nat) (AO : Option Addr) (O : List (List (Int × Int))) (cO : Nat) (w : World) (hO : RTo w AO O) (hs : s.length ≤ 1000000000000000) (hC : C.length ≤ 1000000000000000) (hOm : O.length ≤ 9223372036854775807) (hOe : ∀ l ∈ O, l.length ≤ 1000000000000000) :
    Calls Tryd.prog 12 #[.agg #[.slice AC s.length cC, .slice AH C.length cH, .slice AO O.length cO]] w (RetB (.bool (ligB s C O)) w) := by
  by_cases h : 60 < O.length
  · have e : ligB s C O = false := by unfold ligB; exact decide_eq_false (fun h' => by omega)
    rw [e]
    exact light_many AC s cC AH C cH AO O cO w hO hs hC h hOm
  · refine light_any AC s cC AH C cH AO O cO w hO hs hC (by omega) ?_
    have h1 := flat_lenL hOe
    have h2 : O.length * 1000000000000000 ≤ 60 * 1000000000000000 := Nat.mul_le_mul_right _ (by omega)
    omega
end Go.Proofs.YtncimnfhfomddaaDoor

/- law21.EnforceChecks: the enforcements under way. -/
namespace Go.Proofs.YtncimnfhfomddaaDoor
open Go.ChangeShapes Go.WideShapes Go.ChangeAt Go.RowKit

theorem plainA (b o i : Nat) : (⟨b, o, none⟩ : Addr).add i = ⟨b, o + i, none⟩ := by unfold Addr.add; split <;> simp_all
/-- two rows of the call's own with elements of two types lie apart -/
theorem rows_apart {w : World} {b1 b2 s1 s2 n1 n2 : Nat} {e1 e2 : TypeId} {v1 v2 : Value} {x1 x2 : List Value} (h1 : w.ownsRow b1 e1 s1 v1 n1 x1) (h2 : w.ownsRow b2 e2 s2 v2 n2 x2) (hne : e1 ≠ e2) : v1.ownBlock = none ∨ v1.ownBlock ≠ v2.ownBlock := by
  obtain ⟨_, h1⟩ := h1
  obtain ⟨_, h2⟩ := h2
  rcases h1 with ⟨rfl, _⟩ | ⟨g, cap, cur, rfl, _, hg, _⟩
  · exact .inl rfl
  · right
    rcases h2 with ⟨rfl, _⟩ | ⟨g', cap', cur', rfl, _, hg', _⟩
    · simp [Value.ownBlock]
    · intro e
      simp only [Value.ownBlock, Option.some.injEq] at e
      subst e
      rw [hg] at hg'
      simp only [Option.some.injEq, Obj.cells.injEq] at hg'
      exact hne hg'.2.1
/-- an enforcement, as a check reads it -/
structure Zf (w : World) (A : Option Addr) (s : List Int) (B : Option Addr) (C : List (Int × Int)) (d : Nat) (D : Option Addr) (O : List (List (Int × Int))) : Prop where
  rs : RI w A s
  rc : RP w B C
  ro : RTo w D O
  ls : s.length ≤ 1000
  lc : C.length ≤ 1000
  lo : O.length ≤ 1000
  lf : O.flatten.length ≤ 100000
  ii : ∀ l ∈ O, ∀ p ∈ l, I64 p
  cd : C.length ≤ d
theorem Zf.below {w w' : World} {A : Option Addr} {s : List Int} {B : Option Addr} {C : List (Int × Int)} {d : Nat} {D : Option Addr} {O : List (List (Int × Int))} (h : Zf w A s B C d D O) (hb : Below w.heap.size w w') : Zf w' A s B C d D O :=
  { h with rs := h.rs.below hb, rc := h.rc.below hb, ro := h.ro.below hb }
/-- the values of a list of lists, each not empty -/
def RX (m : Nat) (w : World) (X : List Value) (O : List (List (Int × Int))) : Prop := X.length = O.length ∧ ∀ k (hk : k < O.length), ∃ b o c, X[k]? = some (.slice (some ⟨b, o, none⟩) O[k].length c) ∧ RP w (some ⟨b, o, none⟩) O[k] ∧ m ≤ b ∧ 0 < O[k].length ∧ O[k].length ≤ c
/-- the values of a list of lists -/
def RY (w : World) (X : List Value) (O : List (List (Int × Int))) : Prop := X.length = O.length ∧ ∀ k (hk : k < O.length), ∃ A c, X[k]? = some (.slice A O[k].length c) ∧ RP w A O[k]
theorem RX.below {m : Nat} {w w' : World} {X : List Value} {O : List (List (Int × Int))} (h : RX m w X O) (hb : Below w.heap.size w w') : RX m w' X O :=
  ⟨h.1, fun k hk => by obtain ⟨b, o, c, h1, h2, h3⟩ := h.2 k hk; exact ⟨b, o, c, h1, h2.below hb, h3⟩⟩
theorem RX.grown {m p : Nat} {w w' : World} {X : List Value} {O : List (List (Int × Int))} (h : RX m w X O) (hg : w.grownBy w' (some p)) (hp : p < m) : RX m w' X O :=
  ⟨h.1, fun k hk => by
    obtain ⟨b, o, c, h1, h2, h3, h4⟩ := h.2 k hk
    exact ⟨b, o, c, h1, h2.grown hg (fun b' o' e => by injection e with e; injection e with e; omega), h3, h4⟩⟩
theorem RX.ry {m : Nat} {w : World} {X : List Value} {O : List (List (Int × Int))} (h : RX m w X O) : RY w X O :=
  ⟨h.1, fun k hk => by obtain ⟨b, o, c, h1, h2, _⟩ := h.2 k hk; exact ⟨_, c, h1, h2⟩⟩
theorem RX.lits {m : Nat} {w : World} {X : List Value} {O : List (List (Int × Int))} (h : RX m w X O) : ∀ u ∈ X, ∃ A n c, u = Value.slice A n c := fun u hu => by
  obtain ⟨k, hk, rfl⟩ := List.getElem_of_mem hu
  obtain ⟨b, o, c, h1, _⟩ := h.2 k (by rw [← h.1]; exact hk)
  rw [List.getElem?_eq_getElem hk] at h1
  injection h1 with h1
  exact ⟨_, _, _, h1⟩
theorem RY.below {w w' : World} {X : List Value} {O : List (List (Int × Int))} (h : RY w X O) (hb : Below w.heap.size w w') : RY w' X O :=
  ⟨h.1, fun k hk => by obtain ⟨A, c, h1, h2⟩ := h.2 k hk; exact ⟨A, c, h1, h2.below hb⟩⟩
theorem RY.snoc {w : World} {X : List Value} {O : List (List (Int × Int))} {A : Option Addr} {l : List (Int × Int)} {c : Nat} (h : RY w X O) (hr : RP w A l) : RY w (X ++ [.slice A l.length c]) (O ++ [l]) := by
  refine ⟨by simp [h.1], fun k hk => ?_⟩
  by_cases hk' : k < O.length
  · obtain ⟨A', c', h1, h2⟩ := h.2 k hk'
    rw [List.getElem_append_left hk']
    exact ⟨A', c', by rw [List.getElem?_append_left (by rw [h.1]; exact hk')]; exact h1, h2⟩
  · obtain rfl : k = O.length := by simp at hk; omega
    rw [List.getElem_append_right (Nat.le_refl _)]
    simp only [Nat.sub_self, List.getElem_cons_zero]
    exact ⟨A, c, by rw [← h.1]; simp, hr⟩
theorem RY.set {w : World} {X : List Value} {O : List (List (Int × Int))} {A : Option Addr} {l : List (Int × Int)} {c i : Nat} (h : RY w X O) (hr : RP w A l) : RY w (X.set i (.slice A l.length c)) (O.set i l) := by
  refine ⟨by simp [h.1], fun k hk => ?_⟩
  rw [List.length_set] at hk
  by_cases e : i = k
  · subst e
    rw [List.getElem_set_self]
    exact ⟨A, c, by rw [List.getElem?_set_self (by rw [h.1]; exact hk)], hr⟩
  · rw [List.getElem_set_ne e]
    obtain ⟨A', c', h1, h2⟩ := h.2 k hk
    exact ⟨A', c', by rw [List.getElem?_set_ne e]; exact h1, h2⟩
theorem RY.rto {w : World} {b : Nat} {v : Value} {X : List Value} {O : List (List (Int × Int))} (h : RY w X O) (ho : OwnTS w b v X) : ∃ D e, v = .slice D O.length e ∧ RTo w D O := by
  have h' := ho
  obtain ⟨h1, h2⟩ := ho
  rcases h2 with ⟨rfl, hn⟩ | ⟨g, cap, cur, rfl, hg, r⟩
  · have : O = [] := List.eq_nil_of_length_eq_zero (by rw [← h.1]; exact hn)
    subst this
    exact ⟨none, 0, rfl, RTo.nil _ _⟩
  · refine ⟨some ⟨g, 0, none⟩, cap, by rw [h.1], fun k hk => ?_⟩
    obtain ⟨A', c', hx, hr⟩ := h.2 k hk
    have c0 := h'.cells (g := g) rfl _ _ hx
    rw [plainA] at c0
    exact ⟨g, 0, A', c', rfl, c0, hr⟩
/-- an enforcement of a call's own -/
structure Zx (m : Nat) (w : World) (A : Option Addr) (s : List Int) (B : Option Addr) (C : List (Int × Int)) (d : Nat) (D : Option Addr) (O : List (List (Int × Int))) (e : Nat) (X : List Value) : Prop where
  rs : RI w A s
  la : ∀ b o, A = some ⟨b, o, none⟩ → m ≤ b
  rc : RP w B C
  lb : ∀ b o, B = some ⟨b, o, none⟩ → m ≤ b
  nb : B = none → C = [] ∧ d = 0
  rd : ∀ k, k < X.length → ∃ b o, D = some ⟨b, o, none⟩ ∧ m ≤ b ∧ w.cell? ⟨b, o + k, none⟩ = X[k]?
  nd : D = none → X = [] ∧ e = 0
  rx : RX m w X O
  ls : s.length ≤ 40
  lc : C.length ≤ 900
  lo : O.length ≤ 900
  le : ∀ l ∈ O, l.length ≤ 80
  ii : ∀ l ∈ O, ∀ p ∈ l, I64 p
  cd : C.length ≤ d
section
variable {m : Nat} {w w' : World} {A : Option Addr} {s : List Int} {B : Option Addr} {C : List (Int × Int)} {d : Nat} {D : Option Addr} {O : List (List (Int × Int))} {e : Nat} {X : List Value}
theorem cell_some {w : World} {a : Addr} {k : Nat} {X : List Value} (hk : k < X.length) (h : w.cell? a = X[k]?) : ∃ u, w.cell? a = some u ∧ X[k]? = some u := by
  rw [List.getElem?_eq_getElem hk] at h
  exact ⟨_, h, List.getElem?_eq_getElem hk⟩
theorem Zx.below (h : Zx m w A s B C d D O e X) (hb : Below w.heap.size w w') : Zx m w' A s B C d D O e X :=
  { h with
    rs := h.rs.below hb, rc := h.rc.below hb, rx := h.rx.below hb
    rd := fun k hk => by
      obtain ⟨b, o, h1, h2, h3⟩ := h.rd k hk
      obtain ⟨u, h4, h5⟩ := cell_some hk h3
      exact ⟨b, o, h1, h2, by rw [h5]; exact (hb.cell (lt_of_cell h4)).trans h4⟩ }
theorem Zx.grown {p : Nat} (h : Zx m w A s B C d D O e X) (hg : w.grownBy w' (some p)) (hp : p < m) : Zx m w' A s B C d D O e X :=
  { h with
    rs := h.rs.grown hg (fun b o e _ => by have := h.la b o e; omega)
    rc := h.rc.grown hg (fun b o e => by have := h.lb b o e; omega)
    rx := h.rx.grown hg hp
    rd := fun k hk => by
      obtain ⟨b, o, h1, h2, h3⟩ := h.rd k hk
      obtain ⟨u, h4, h5⟩ := cell_some hk h3
      exact ⟨b, o, h1, h2, by rw [h5]; exact hg.cell h4 (by simp; omega)⟩ }
theorem Zx.rto (h : Zx m w A s B C d D O e X) : RTo w D O := fun k hk => by
  have hk' : k < X.length := by rw [h.rx.1]; exact hk
  obtain ⟨b, o, h1, h2, h3⟩ := h.rd k hk'
  obtain ⟨b', o', c', h4, h5, _⟩ := h.rx.2 k hk
  exact ⟨b, o, _, c', h1, h3.trans h4, h5⟩
theorem flat_few {O : List (List (Int × Int))} {a b : Nat} (h1 : O.length ≤ a) (h2 : ∀ l ∈ O, l.length ≤ b) (h3 : a * b ≤ 100000) : O.flatten.length ≤ 100000 := by
  have h4 := flat_lenL h2
  have h5 : O.length * b ≤ a * b := Nat.mul_le_mul_right _ h1
  omega
theorem Zx.zf (h : Zx m w A s B C d D O e X) : Zf w A s B C d D O :=
  { rs := h.rs, rc := h.rc, ro := h.rto, ls := Nat.le_trans h.ls (by decide), lc := Nat.le_trans h.lc (by decide), lo := Nat.le_trans h.lo (by decide), lf := flat_few h.lo h.le (by decide), ii := h.ii, cd := h.cd }
end
theorem RX.mono {m m' : Nat} {w : World} {X : List Value} {O : List (List (Int × Int))} (h : RX m w X O) (hm : m' ≤ m) : RX m' w X O :=
  ⟨h.1, fun k hk => by obtain ⟨b, o, c, h1, h2, h3, h4⟩ := h.2 k hk; exact ⟨b, o, c, h1, h2, by omega, h4⟩⟩
/-- how much an enforcement holds -/
structure Zb (s : List Int) (C : List (Int × Int)) (O : List (List (Int × Int))) : Prop where
  ls : s.length ≤ 40
  lc : C.length ≤ 900
  lo : O.length ≤ 900
  le : ∀ l ∈ O, l.length ≤ 80
  ln : ∀ l ∈ O, l ≠ []
  ii : ∀ l ∈ O, ∀ p ∈ l, I64 p
/-- an enforcement in blocks of a call's own -/
def XO (m : Nat) (w : World) (v1 v2 v3 : Value) : Prop := ∃ s C O xs, OwnI w m v1 s ∧ OwnP w m v2 C ∧ OwnTS w m v3 xs ∧ OwnTL w m xs O ∧ FitX xs ∧ Zb s C O
theorem XO.below {m : Nat} {w w' : World} {v1 v2 v3 : Value} (h : XO m w v1 v2 v3) (hb : Below w.heap.size w w') : XO m w' v1 v2 v3 := by
  obtain ⟨s, C, O, xs, h1, h2, h3, h4, h5⟩ := h
  exact ⟨s, C, O, xs, ownsRow_below h1 hb, ownsRow_below h2 hb, ownsRow_below h3 hb, h4.below hb, h5⟩
theorem XO.mono {m m' : Nat} {w : World} {v1 v2 v3 : Value} (h : XO m w v1 v2 v3) (hm : m' ≤ m) : XO m' w v1 v2 v3 := by
  obtain ⟨s, C, O, xs, h1, h2, h3, h4, h5⟩ := h
  exact ⟨s, C, O, xs, ownsRow_mono h1 hm, ownsRow_mono h2 hm, ownsRow_mono h3 hm, h4.mono hm, h5⟩
theorem XO.box {m g : Nat} {w w' : World} {v1 v2 v3 : Value} {cs : Array Value} (h : XO m w v1 v2 v3) (k : Blk w g 28 cs) (hg : w.grownBy w' (some g)) : XO m w' v1 v2 v3 := by
  obtain ⟨s, C, O, xs, h1, h2, h3, h4, h5⟩ := h
  exact ⟨s, C, O, xs, World.ownsRow.kept h1 hg (.inr (own_apart h1 k (by decide))), World.ownsRow.kept h2 hg (.inr (own_apart h2 k (by decide))), World.ownsRow.kept h3 hg (.inr (own_apart h3 k (by decide))), h4.apartB k (by decide) hg, h5⟩
theorem xo_none (m : Nat) (w : World) : XO m w (.slice Option.none 0 0) (.slice Option.none 0 0) (.slice Option.none 0 0) :=
  ⟨[], [], [], [], OwnI.nil _ _, OwnP.nil _ _, OwnTS.nil _ _, OwnTL.nil _ _, FitX.nil, by simp, by simp, by simp, by simp, by simp, by simp⟩
theorem XO.zx {m : Nat} {w : World} {v1 v2 v3 : Value} (h : XO m w v1 v2 v3) : ∃ A s c B C d D O e X, v1 = .slice A (List.length s) c ∧ v2 = .slice B (List.length C) d ∧ v3 = .slice D (List.length O) e ∧ Zx m w A s B C d D O e X := by
  obtain ⟨s, C, O, xs, h1, h2, h3, h4, h5, hz⟩ := h
  obtain ⟨A, c, rfl, hA, _⟩ := h1.form2
  obtain ⟨B, d, rfl, hB, hBn⟩ := h2.form2
  obtain ⟨D, e, rfl, hD, hDl⟩ := h3.forms h4
  have hx2 : xs.length = O.length := h4.1
  refine ⟨A, s, c, B, C, d, D, O, e, xs, rfl, rfl, rfl, { rs := hA, la := fun b o e => by subst e; exact (World.ownsRow.lt h1 b rfl).1, rc := hB, lb := fun b o e => by subst e; exact (World.ownsRow.lt h2 b rfl).1, nb := hBn, rd := fun k hk => ?_, nd := fun e => ?_, rx := ⟨h4.1, fun k hk => ?_⟩, ls := hz.ls, lc := hz.lc, lo := hz.lo, le := hz.le, ii := hz.ii, cd := h2.fit.2 }⟩
  · obtain ⟨u, hu⟩ : ∃ u, xs[k]? = some u := ⟨_, List.getElem?_eq_getElem hk⟩
    obtain ⟨_, h6⟩ := id h3
    rcases h6 with ⟨_, hn0⟩ | ⟨g, cap, cur, e, hg, _⟩
    · omega
    · injection e with e1 e2 e3
      have c0 := h3.cells (g := g) (by rw [e1]; rfl) _ _ hu
      rw [plainA] at c0
      exact ⟨g, 0, e1, hg, by rw [hu]; exact c0⟩
  · subst e
    obtain ⟨_, h6⟩ := id h3
    rcases h6 with ⟨e, hn0⟩ | ⟨g, cap, cur, e, hg, _⟩
    · injection e with _ _ e3
      exact ⟨List.eq_nil_of_length_eq_zero hn0, e3⟩
    · cases e
  · obtain ⟨A', c', h6, h7⟩ := h4.2 k hk
    have e : O.getD k [] = O[k] := by simp [List.getD, hk]
    rw [e] at h6 h7
    have hp : 0 < (O[k]).length := List.length_pos_iff.2 (hz.ln _ (List.getElem_mem hk))
    obtain ⟨b, o, hA, _⟩ := h7.1.at_ hp
    subst hA
    have hmem : Value.slice (some ⟨b, o, none⟩) (O[k]).length c' ∈ xs := List.mem_of_getElem? h6
    obtain ⟨A2, n2, c2, e2, _, h8⟩ := h5 _ hmem
    injection e2 with e3 e4 e5
    exact ⟨b, o, c', h6, h7.1, (h7.2 b o rfl).1, hp, by omega⟩
/-- what Strict of the reference answers to a right graph and set -/
theorem xo_of {n : Nat} {G : List (Int × Int)} {s : List Int} {kind : Int} {w w' : World} {e : Ending} (h : RetEr (n : Int) G s kind w e w') (hv : Vld n G) (hs : setB n s = true) (hk : kind = 1 ∨ kind = 2) (hG : G.length ≤ 300) :
    Below w.heap.size w w' ∧ ∃ v1 v2 v3 er, e = .returned (.tuple #[.agg #[v1, v2, v3], .int .i64 er]) ∧ XO w.heap.size w' v1 v2 v3 := by
  obtain ⟨hb, h | ⟨h0, AC, cC, AH, cH, AD, cD, xs, rfl, h1, h2, h3, h4, h5⟩⟩ := h
  · exact ⟨hb, _, _, _, _, h.2, xo_none _ _⟩
  have hh : hpB n s kind = false := by
    unfold stErr at h0
    split at h0
    · split at h0
      · cases h0
      · rename_i hx; simpa using hx
    · rename_i hx; exact absurd h0 hx
  rw [Int.toNat_natCast] at h2 h3 h4
  have hcl := strC_len (s := s) (kind := kind) hv
  have hol : (strC n G s kind).length = (dutL n G s kind).length := by unfold strC; rw [List.length_map]
  have hn := hv.1.1
  have hsl := setB_len hs
  refine ⟨hb, _, _, _, _, rfl, s, strC n G s kind, dutL n G s kind, xs, h1, by rw [Int.toNat_natCast]; exact h2, by rw [Int.toNat_natCast]; exact h3, h4, h5, by omega, by omega, by omega, dut_each hv hs hk, fun l hl => (dut_ok hv hs hh hk l hl).2.1, dut_mem_i64 hv hs hh hk⟩
set_option maxRecDepth 100000 in
/-- 'append(s, t...)' of lists, in a region that draws its order -/
theorem eff_appTs {o : Oper} {a : Act} (s x : Operand)
    (ho : o.op = .call { callee := .builtin .append, args := #[s, x], argTypes := #[26, 26] })
    (X : World) (base : Nat) (v : Value) (xs : List Value) (B : Option Addr) (ys : List Value) (n2 c : Nat) (hown : OwnTS X base v xs) (hn2 : n2 = ys.length) (hr : ∀ k, k < ys.length → ∃ b o, B = some ⟨b, o, none⟩ ∧ X.cell? ⟨b, o + k, none⟩ = ys[k]?) (hl : ∀ u ∈ ys, ∃ A n c, u = Value.slice A n c)
    (hB : B = none → ys = [] ∧ c = 0) (hs : a.eval s = v) (hx : a.eval x = .slice B n2 c)
    (hlen : xs.length + ys.length ≤ 1000000) (hbase : base ≤ X.heap.size) {Post : Value → World → Prop}
    (h : ∀ v' w', OwnTS w' base v' (xs ++ ys) → Below base X w' → X.grownBy w' v.ownBlock → Post v' w') : Eff Tryd.prog o a X Post := by
  subst hn2
  obtain ⟨i0, hi, hz0, hz1, hz2⟩ := info_parts info_pairs
  unfold Eff
  cases B with
  | none =>
    obtain ⟨rfl, rfl⟩ := hB rfl
    have hrun := run_append_owned_none (P := Tryd.prog) (w := X) base 26 o.type 22 i0 1 Tryd.underlying26 hi v xs.length _ hown
    have hp := h v X (by rw [List.append_nil]; exact hown) (Below.refl _ _) (grownBy_refl _ _)
    unfold Oper.wp
    simp [execOp, ho, resolve, invoke, builtin, hs, hx, hrun, Result.andThen]
    exact ⟨v, rfl, hp⟩
  | some ad =>
    refine wp_append_own X s x 26 ho base 22 i0 (.slice none 0 0) 1 24 Tryd.underlying26 hi hz0 hz1 hz2 rfl (by decide) v xs.length _ hs hown ad ys.length c ys hx (by simp) (fun j u hu => ?_)
      (by intro u hu; obtain ⟨A, n, c, rfl⟩ := hl u hu; rfl) (by unfold maxLen; omega) (by omega) hbase ?_
    · have hjl := (List.getElem?_eq_some_iff.1 hu).1
      obtain ⟨b, off, hA, hc⟩ := hr j hjl
      injection hA with hA; subst hA
      rw [plainA, hc, hu]
    · intro v' w1 hown' hgrow _
      refine ⟨v', rfl, h v' w1 ?_ ((Below.refl base X).grown hgrow hbase (fun k hk => (hown.lt k hk).1)) hgrow⟩
      unfold OwnTS; rw [List.length_append]; exact hown'
theorem OwnTS.shape {w : World} {b : Nat} {v : Value} {X : List Value} (h : OwnTS w b v X) : ∃ A n c, v = .slice A n c ∧ n = X.length := by
  obtain ⟨_, h2⟩ := h
  rcases h2 with ⟨rfl, hn⟩ | ⟨g, cap, cur, rfl, _⟩
  · exact ⟨_, _, _, rfl, hn.symm⟩
  · exact ⟨_, _, _, rfl, rfl⟩
/-- where a list of lists of the call's own lies -/
theorem OwnTS.pos {w : World} {b : Nat} {A : Option Addr} {n c : Nat} {X : List Value} (h : OwnTS w b (.slice A n c) X) (hl : 0 < X.length) :
    ∃ g, A = some ⟨g, 0, none⟩ ∧ n = X.length ∧ b ≤ g ∧ g < w.heap.size ∧ (∀ i, w.frozen? ⟨g, i, none⟩ = false) ∧ ∀ i u, X[i]? = some u → w.cell? ⟨g, i, none⟩ = some u := by
  have h' := h
  obtain ⟨h1, h2⟩ := h
  rcases h2 with ⟨e, hn⟩ | ⟨g', cap, cur, e, hg, hh, hn, hcap, hs, ht⟩
  · omega
  · injection e with e1 e2 e3
    subst e1
    refine ⟨g', rfl, e2, hg, (World.ownsRow.lt h' g' rfl).2, fun i => by simp [World.frozen?, hh], fun i u hu => ?_⟩
    have c0 := h'.cells (g := g') rfl _ _ hu
    rw [plainA, Nat.zero_add] at c0
    exact c0
theorem OwnTS.store {w : World} {b g n c : Nat} {X : List Value} (h : OwnTS w b (.slice (some ⟨g, 0, none⟩) n c) X) (k : Nat) (x : Value) :
    OwnTS (w.setCell ⟨g, k, none⟩ x) b (.slice (some ⟨g, 0, none⟩) n c) (X.set k x) := by
  obtain ⟨h1, h2⟩ := h
  refine ⟨by simp, ?_⟩
  rcases h2 with ⟨e, _⟩ | ⟨g', cap, cur, e, hg, hh, hn, hcap, hs, ht⟩
  · cases e
  · injection e with e1 e2 e3
    injection e1 with e1
    injection e1 with e1 _ _
    subst e1 e3
    refine .inr ⟨g, c, cur.setIfInBounds k x, by rw [List.length_set, e2], hg, ?_, by rw [List.length_set]; exact hn, hcap, by simpa using hs, ?_⟩
    · simp [World.setCell, Array.getElem?_modify, hh]
    · rw [Array.toList_setIfInBounds, List.take_set, List.length_set, ht]
/-- y's parts, under way -/
structure J7 (m : Nat) (q : Option Nat) (o1 : Option Value) (C1 : List (Int × Int)) (o2 : Option Value) (X2 : List Value) (w : World) : Prop where
  sz : m ≤ w.heap.size
  bx : ∀ g, q = some g → m ≤ g ∧ Blk w g 28 #[.slice none 0 0, .slice none 0 0, .slice none 0 0]
  p : ∀ v, o1 = some v → OwnP w m v C1
  t : ∀ v, o2 = some v → OwnTS w m v X2
section
variable {m : Nat} {q : Option Nat} {o1 o2 : Option Value} {C1 C : List (Int × Int)} {X2 X : List Value} {w w' : World} {v v' : Value}
theorem J7.low (h : J7 m q o1 C1 o2 X2 w) (hb : Below w.heap.size w w') : J7 m q o1 C1 o2 X2 w' :=
  ⟨Nat.le_trans h.sz hb.size, fun g e => ⟨(h.bx g e).1, (h.bx g e).2.below hb (h.bx g e).2.lt⟩, fun v e => ownsRow_below (h.p v e) hb, fun v e => ownsRow_below (h.t v e) hb⟩
theorem J7.start (w : World) : J7 w.heap.size none none [] none [] w := ⟨Nat.le_refl _, fun g e => (by cases e), fun v e => (by cases e), fun v e => (by cases e)⟩
theorem J7.box (h : J7 m none o1 C1 o2 X2 w) : J7 m (some w.heap.size) o1 C1 o2 X2 (w.alloc (.cells #[.slice none 0 0, .slice none 0 0, .slice none 0 0] 28)) :=
  { h.low (newB _ _) with bx := fun g e => by injection e with e; subst e; exact ⟨h.sz, Blk.new _ _ _⟩ }
theorem J7.emp1 (h : J7 m q none [] o2 X2 w) : J7 m q (some (.slice (some ⟨w.heap.size, 0, none⟩) 0 0)) [] o2 X2 (w.alloc (.cells #[] 42)) :=
  { h.low (newB _ _) with p := fun g e => by injection e with e; subst e; exact World.ownsRow_made w #[] 0 h.sz (by decide) (by simp) }
theorem J7.emp2 (h : J7 m q o1 C1 none [] w) : J7 m q o1 C1 (some (.slice (some ⟨w.heap.size, 0, none⟩) 0 0)) [] (w.alloc (.cells #[] 22)) :=
  { h.low (newB _ _) with t := fun g e => by injection e with e; subst e; exact World.ownsRow_made w #[] 0 h.sz (by decide) (by simp) }
theorem J7.app1 (h : J7 m q (some v) C1 o2 X2 w) (ho : OwnP w' m v' C) (hg : w.grownBy w' v.ownBlock) : J7 m q (some v') C o2 X2 w' :=
  { sz := Nat.le_trans h.sz hg.size
    bx := fun g e => ⟨(h.bx g e).1, (h.bx g e).2.grown hg (fun e' => own_apart (h.p v rfl) (h.bx g e).2 (by decide) e'.symm)⟩
    p := fun g e => by injection e with e; subst e; exact ho
    t := fun u e => World.ownsRow.kept (h.t u e) hg (rows_apart (h.t u e) (h.p v rfl) (by decide)) }
theorem J7.app2 (h : J7 m q o1 C1 (some v) X2 w) (ho : OwnTS w' m v' X) (hg : w.grownBy w' v.ownBlock) : J7 m q o1 C1 (some v') X w' :=
  { sz := Nat.le_trans h.sz hg.size
    bx := fun g e => ⟨(h.bx g e).1, (h.bx g e).2.grown hg (fun e' => own_apart (h.t v rfl) (h.bx g e).2 (by decide) e'.symm)⟩
    t := fun g e => by injection e with e; subst e; exact ho
    p := fun u e => World.ownsRow.kept (h.p u e) hg (rows_apart (h.p u e) (h.t v rfl) (by decide)) }
/-- y is stored -/
theorem J7.fin {g : Nat} {W : World} (h : J7 W.heap.size (some g) (some v) C (some v') X w) (hS : Below W.heap.size W w) (a : Value) :
    Below W.heap.size W (((w.setCell ⟨g, 0, none⟩ a).setCell ⟨g, 1, none⟩ v).setCell ⟨g, 2, none⟩ v') ∧ Blk (((w.setCell ⟨g, 0, none⟩ a).setCell ⟨g, 1, none⟩ v).setCell ⟨g, 2, none⟩ v') g 28 #[a, v, v'] ∧
    OwnP (((w.setCell ⟨g, 0, none⟩ a).setCell ⟨g, 1, none⟩ v).setCell ⟨g, 2, none⟩ v') W.heap.size v C ∧ OwnTS (((w.setCell ⟨g, 0, none⟩ a).setCell ⟨g, 1, none⟩ v).setCell ⟨g, 2, none⟩ v') W.heap.size v' X ∧ W.heap.size ≤ g := by
  obtain ⟨hg, hk⟩ := h.bx g rfl
  have n1 := own_apart (h.p v rfl) hk (by decide)
  have n2 := own_apart (h.t v' rfl) hk (by decide)
  refine ⟨((hS.setCell (p := ⟨g, 0, none⟩) hg _).setCell (p := ⟨g, 1, none⟩) hg _).setCell (p := ⟨g, 2, none⟩) hg _, ((hk.set_ 0 _).set_ 1 _).set_ 2 _, ?_, ?_, hg⟩
  · exact ((World.ownsRow.kept (h.p v rfl) (grownBy_setCell w g 0 _) (.inr n1)).kept (grownBy_setCell _ g 1 _) (.inr n1)).kept (grownBy_setCell _ g 2 _) (.inr n1)
  · exact ((World.ownsRow.kept (h.t v' rfl) (grownBy_setCell w g 0 _) (.inr n2)).kept (grownBy_setCell _ g 1 _) (.inr n2)).kept (grownBy_setCell _ g 2 _) (.inr n2)
end
/-- y, under way: the box of y, the pair's box -/
structure YK (p gy gp : Nat) (a v1 v2 : Value) (x y : Int) (w0 w : World) : Prop where
  src : SrcOk w p
  near : Near p w0.heap.size w0 w
  blk : Blk w gy 28 #[a, v1, v2]
  pr : Blk w gp 42 #[.int .i64 x, .int .i64 y]
  hp : p < w0.heap.size
  hgy : w0.heap.size ≤ gy
  hgp : w0.heap.size ≤ gp
section
variable {p gy gp : Nat} {a v1 v2 : Value} {x y : Int} {w0 w w' : World}
theorem YK.low (h : YK p gy gp a v1 v2 x y w0 w) (hb : Below w.heap.size w w') : YK p gy gp a v1 v2 x y w0 w' :=
  { h with src := h.src.kept hb, near := h.near.trans (Near.of_below (hb.mono h.near.size)), blk := h.blk.below hb h.blk.lt, pr := h.pr.below hb h.pr.lt }
theorem YK.read (h : YK p gy gp a v1 v2 x y w0 w) (hs : SrcOk w' p) (hg : w.grownBy w' (some p)) : YK p gy gp a v1 v2 x y w0 w' :=
  { h with
    src := hs, near := h.near.trans (Near.of_grown hg h.near.size)
    blk := h.blk.grown hg (fun e => by injection e; have := h.hp; have := h.hgy; omega)
    pr := h.pr.grown hg (fun e => by injection e; have := h.hp; have := h.hgp; omega) }
/-- an append to a slice of the call's own -/
theorem YK.app {v : Value} {e : TypeId} {s n : Nat} {xs : List Value} (h : YK p gy gp a v1 v2 x y w0 w) (ho : w.ownsRow w0.heap.size e s v n xs) (hE : 28 ≠ e) (hP : v.ownBlock ≠ some gp) (hg : w.grownBy w' v.ownBlock) : YK p gy gp a v1 v2 x y w0 w' :=
  { h with
    src := h.src.append ho hg h.hp
    near := h.near.trans (Near.of_below ((Below.refl w0.heap.size w).grown hg h.near.size (fun k hk => (World.ownsRow.lt ho k hk).1)))
    blk := h.blk.grown hg (fun e' => own_apart ho h.blk hE e'.symm)
    pr := h.pr.grown hg (fun e' => hP e'.symm) }
theorem YK.put (h : YK p gy gp a v1 v2 x y w0 w) {k i : Nat} (hk : w0.heap.size ≤ k) (h1 : gy ≠ k) (h2 : gp ≠ k) (u : Value) : YK p gy gp a v1 v2 x y w0 (w.setCell ⟨k, i, none⟩ u) :=
  { h with
    src := h.src.other (grownBy_setCell w k i u) (fun j hj => by injection hj; have := h.hp; omega)
    near := h.near.setCell (q := ⟨k, i, none⟩) hk u
    blk := h.blk.far (p := ⟨k, i, none⟩) h1 u
    pr := h.pr.far (p := ⟨k, i, none⟩) h2 u }
end
/-- y is made -/
def YEnd (p gy : Nat) (w0 w : World) : Prop := Near p w0.heap.size w0 w ∧ ∃ A s c B C d D O e, Blk w gy 28 #[.slice A (List.length s) c, .slice B (List.length C) d, .slice D (List.length O) e] ∧ Zf w A s B C d D O
theorem y_end {p gy b b' : Nat} {w0 w : World} {A : Option Addr} {s : List Int} {c : Nat} {v1 v2 : Value} {C : List (Int × Int)} {X : List Value} {O : List (List (Int × Int))}
    (hn : Near p w0.heap.size w0 w) (hk : Blk w gy 28 #[.slice A s.length c, v1, v2]) (hs : RI w A s) (hsl : s.length ≤ 1000) (h1 : OwnP w b v1 C) (h2 : OwnTS w b' v2 X) (hy : RY w X O)
    (hC : C.length ≤ 1000) (hO : O.length ≤ 1000) (hl : ∀ l ∈ O, l.length ≤ 100) (hi : ∀ l ∈ O, ∀ p ∈ l, I64 p) : YEnd p gy w0 w := by
  obtain ⟨B, d, rfl, hB, _⟩ := h1.form2
  obtain ⟨D, e, rfl, hD⟩ := hy.rto h2
  exact ⟨hn, A, s, c, B, C, d, D, O, e, hk, { rs := hs, rc := hB, ro := hD, ls := hsl, lc := hC, lo := hO, lf := flat_few hO hl (by decide), ii := hi, cd := h1.fit.2 }⟩
theorem all_snoc {α : Type} {P : α → Prop} {l : List α} {x : α} (h : ∀ a ∈ l, P a) (hx : P x) : ∀ a ∈ l ++ [x], P a := fun a ha => by
  rcases List.mem_append.1 ha with ha | ha
  · exact h a ha
  · rw [List.mem_singleton] at ha; subst ha; exact hx
theorem all_set {α : Type} {P : α → Prop} {l : List α} {x : α} {i : Nat} (h : ∀ a ∈ l, P a) (hx : P x) : ∀ a ∈ l.set i x, P a := fun a ha => by
  rcases List.mem_or_eq_of_mem_set ha with ha | ha
  · exact h a ha
  · subst ha; exact hx
end Go.Proofs.YtncimnfhfomddaaDoor

/- law21.EnforceChecks: how each change of y ends. -/
namespace Go.Proofs.YtncimnfhfomddaaDoor
open Go.ChangeShapes Go.WideShapes Go.ChangeAt Go.RowKit

/-- y before its change -/
structure YA (p gy gp m : Nat) (A : Option Addr) (s : List Int) (c : Nat) (v1 v2 : Value) (C : List (Int × Int)) (X : List Value) (O : List (List (Int × Int))) (x y : Int) (w0 w : World) : Prop where
  k : YK p gy gp (.slice A s.length c) v1 v2 x y w0 w
  o1 : OwnP w w0.heap.size v1 C
  o2 : OwnTS w w0.heap.size v2 X
  rs : RI w0 A s
  la : ∀ b o, A = some ⟨b, o, none⟩ → m ≤ b
  rx : RX m w0 X O
  pm : p < m
  n1 : v1.ownBlock ≠ some gp
  ls : s.length ≤ 40
  lc : C.length ≤ 900
  lo : O.length ≤ 900
  le : ∀ l ∈ O, l.length ≤ 80
  ii : ∀ l ∈ O, ∀ p ∈ l, I64 p
  ix : I64 (x, y)
section
variable {p gy gp m : Nat} {A : Option Addr} {s : List Int} {c : Nat} {v1 v2 : Value} {C : List (Int × Int)} {X : List Value} {O : List (List (Int × Int))} {x y : Int} {w0 w w' : World}
theorem YA.low (h : YA p gy gp m A s c v1 v2 C X O x y w0 w) (hb : Below w.heap.size w w') : YA p gy gp m A s c v1 v2 C X O x y w0 w' :=
  { h with k := h.k.low hb, o1 := ownsRow_below h.o1 hb, o2 := ownsRow_below h.o2 hb }
theorem YA.read (h : YA p gy gp m A s c v1 v2 C X O x y w0 w) (hs : SrcOk w' p) (hg : w.grownBy w' (some p)) : YA p gy gp m A s c v1 v2 C X O x y w0 w' :=
  { h with k := h.k.read hs hg, o1 := ownsRow_far h.o1 hg h.k.hp, o2 := ownsRow_far h.o2 hg h.k.hp }
theorem ri_near (hn : Near p w0.heap.size w0 w) (h : RI w0 A s) (la : ∀ b o, A = some ⟨b, o, none⟩ → m ≤ b) (pm : p < m) : RI w A s :=
  h.grown hn.grown (fun b o e _ => by have := la b o e; omega)
/-- nothing is changed -/
theorem YA.fin (h : YA p gy gp m A s c v1 v2 C X O x y w0 w) : YEnd p gy w0 w :=
  y_end h.k.near h.k.blk (ri_near h.k.near h.rs h.la h.pm) (Nat.le_trans h.ls (by decide)) h.o1 h.o2 (h.rx.grown h.k.near.grown h.pm).ry (Nat.le_trans h.lc (by decide)) (Nat.le_trans h.lo (by decide)) (fun l hl => Nat.le_trans (h.le l hl) (by decide)) h.ii
/-- a change is appended -/
theorem YA.fin0 {v' : Value} (h : YA p gy gp m A s c v1 v2 C X O x y w0 w) (ho : OwnP w' w0.heap.size v' (C ++ [(x, y)])) (hg : w.grownBy w' v1.ownBlock) :
    Blk w' gy 28 #[.slice A s.length c, v1, v2] ∧ YEnd p gy w0 (w'.setCell ⟨gy, 1, none⟩ v') := by
  have hk := h.k.app h.o1 (by decide) h.n1 hg
  have o2 := World.ownsRow.kept h.o2 hg (rows_apart h.o2 h.o1 (by decide))
  have n1 := own_apart ho hk.blk (by decide)
  have n2 := own_apart o2 hk.blk (by decide)
  have hn := hk.near.setCell (q := ⟨gy, 1, none⟩) h.k.hgy v'
  have hlc := h.lc
  exact ⟨hk.blk, y_end hn (hk.blk.set_ 1 v') (ri_near hn h.rs h.la h.pm) (Nat.le_trans h.ls (by decide)) (World.ownsRow.kept ho (grownBy_setCell w' gy 1 v') (.inr n1)) (World.ownsRow.kept o2 (grownBy_setCell w' gy 1 v') (.inr n2)) (h.rx.grown hn.grown h.pm).ry (by rw [List.length_append]; simp; omega) (Nat.le_trans h.lo (by decide)) (fun l hl => Nat.le_trans (h.le l hl) (by decide)) h.ii⟩
/-- a change is put in place of another -/
theorem YA.fin1 {g d i : Nat} (h : YA p gy gp m A s c (.slice (some ⟨g, 0, none⟩) C.length d) v2 C X O x y w0 w) : YEnd p gy w0 ((w.setCell ⟨g, i * 2, none⟩ (.int .i64 x)).setCell ⟨g, i * 2 + 1, none⟩ (.int .i64 y)) := by
  obtain ⟨C', hl, ho⟩ := OwnP.store2 h.o1 i x y
  have hgB : w0.heap.size ≤ g := (World.ownsRow.lt h.o1 g rfl).1
  have n1 := own_apart h.o1 h.k.blk (by decide)
  have n2 := rows_apart h.o2 h.o1 (by decide)
  have hgg : gy ≠ g := fun e => n1 (by rw [e]; rfl)
  have hk := (h.k.put (i := i * 2) hgB hgg (fun e => h.n1 (by rw [e]; rfl)) (.int .i64 x)).put (i := i * 2 + 1) hgB hgg (fun e => h.n1 (by rw [e]; rfl)) (.int .i64 y)
  have o2 : OwnTS ((w.setCell ⟨g, i * 2, none⟩ (.int .i64 x)).setCell ⟨g, i * 2 + 1, none⟩ (.int .i64 y)) w0.heap.size v2 X := (World.ownsRow.kept h.o2 (grownBy_setCell w g _ _) n2).kept (grownBy_setCell _ g _ _) n2
  have hlc := h.lc
  exact y_end hk.near hk.blk (ri_near hk.near h.rs h.la h.pm) (Nat.le_trans h.ls (by decide)) ho o2 (h.rx.grown hk.near.grown h.pm).ry (by omega) (Nat.le_trans h.lo (by decide)) (fun l hl => Nat.le_trans (h.le l hl) (by decide)) h.ii
/-- an obligation is appended -/
theorem YA.fin2 {v' : Value} {g : Nat} (h : YA p gy gp m A s c v1 v2 C X O x y w0 w) (hr : OwnP w w0.heap.size (.slice (some ⟨g, 0, none⟩) 1 1) [(x, y)]) (ho : OwnTS w' w0.heap.size v' (X ++ [.slice (some ⟨g, 0, none⟩) 1 1])) (hg : w.grownBy w' v2.ownBlock) :
    Blk w' gy 28 #[.slice A s.length c, v1, v2] ∧ YEnd p gy w0 (w'.setCell ⟨gy, 2, none⟩ v') := by
  have hbk : Blk w' gy 28 #[.slice A s.length c, v1, v2] := h.k.blk.grown hg (fun e => own_apart h.o2 h.k.blk (by decide) e.symm)
  have hn0 : Near p w0.heap.size w0 w' := h.k.near.trans (Near.of_below ((Below.refl w0.heap.size w).grown hg h.k.near.size (fun k hk => (World.ownsRow.lt h.o2 k hk).1)))
  have o1 := World.ownsRow.kept h.o1 hg (rows_apart h.o1 h.o2 (by decide))
  have hr' : OwnP w' w0.heap.size (.slice (some ⟨g, 0, none⟩) 1 1) [(x, y)] := World.ownsRow.kept hr hg (rows_apart hr h.o2 (by decide))
  have n1 := own_apart ho hbk (by decide)
  have n2 := own_apart o1 hbk (by decide)
  have n3 := own_apart hr' hbk (by decide)
  have hn := hn0.setCell (q := ⟨gy, 2, none⟩) h.k.hgy v'
  have hr2 : RP (w'.setCell ⟨gy, 2, none⟩ v') (some ⟨g, 0, none⟩) [(x, y)] := OwnP.rpr (World.ownsRow.kept hr' (grownBy_setCell w' gy 2 v') (.inr n3))
  have hlo := h.lo
  have hlc := h.lc
  exact ⟨hbk, y_end hn (hbk.set_ 2 v') (ri_near hn h.rs h.la h.pm) (Nat.le_trans h.ls (by decide)) (World.ownsRow.kept o1 (grownBy_setCell w' gy 2 v') (.inr n2)) (World.ownsRow.kept ho (grownBy_setCell w' gy 2 v') (.inr n1)) (RY.snoc (l := [(x, y)]) (h.rx.grown hn.grown h.pm).ry hr2) (by omega) (by rw [List.length_append]; simp; omega)
    (all_snoc (fun l hl => Nat.le_trans (h.le l hl) (by decide)) (by simp)) (all_snoc h.ii (fun q hq => by rw [List.mem_singleton] at hq; subst hq; exact h.ix))⟩
/-- an obligation is put in place of another -/
theorem YA.fin3 {g n d i : Nat} {A' : Option Addr} {l : List (Int × Int)} {c' : Nat} (h : YA p gy gp m A s c v1 (.slice (some ⟨g, 0, none⟩) n d) C X O x y w0 w) (hr : RP w A' l) (hne : ∀ b o, A' = some ⟨b, o, none⟩ → b ≠ g) (hl : l.length ≤ 100) (hi : ∀ q ∈ l, I64 q) :
    YEnd p gy w0 (w.setCell ⟨g, i, none⟩ (.slice A' l.length c')) := by
  have hgB : w0.heap.size ≤ g := (World.ownsRow.lt h.o2 g rfl).1
  have n2 := own_apart h.o2 h.k.blk (by decide)
  have hgg : gy ≠ g := fun e => n2 (by rw [e]; rfl)
  have n1 := rows_apart h.o1 h.o2 (by decide)
  have hn := h.k.near.setCell (q := ⟨g, i, none⟩) hgB (.slice A' l.length c')
  have hlo := h.lo
  have hlc := h.lc
  exact y_end hn (h.k.blk.far (p := ⟨g, i, none⟩) hgg _) (ri_near hn h.rs h.la h.pm) (Nat.le_trans h.ls (by decide)) (World.ownsRow.kept h.o1 (grownBy_setCell w g i _) n1) (h.o2.store i _) (RY.set (h.rx.grown hn.grown h.pm).ry (hr.grown (grownBy_setCell w g i _) hne)) (by omega) (by rw [List.length_set]; omega)
    (all_set (fun l hl => Nat.le_trans (h.le l hl) (by decide)) hl) (all_set h.ii hi)
/-- the set is put in place of another -/
theorem YA.fin5 {S : List Int} {AS : Option Addr} {cS b : Nat} (h : YA p gy gp m A s c v1 v2 C X O x y w0 w) (hS : OwnI w b (.slice AS S.length cS) S) (hl : S.length ≤ 1000) :
    YEnd p gy w0 (w.setCell ⟨gy, 0, none⟩ (.slice AS S.length cS)) := by
  have n1 := own_apart h.o1 h.k.blk (by decide)
  have n2 := own_apart h.o2 h.k.blk (by decide)
  have n3 := own_apart hS h.k.blk (by decide)
  have hn := h.k.near.setCell (q := ⟨gy, 0, none⟩) h.k.hgy (.slice AS S.length cS)
  exact y_end hn (h.k.blk.set_ 0 _) (OwnI.ri (World.ownsRow.kept hS (grownBy_setCell w gy 0 _) (.inr n3))) hl (World.ownsRow.kept h.o1 (grownBy_setCell w gy 0 _) (.inr n1)) (World.ownsRow.kept h.o2 (grownBy_setCell w gy 0 _) (.inr n2)) (h.rx.grown hn.grown h.pm).ry (Nat.le_trans h.lc (by decide)) (Nat.le_trans h.lo (by decide)) (fun l hl => Nat.le_trans (h.le l hl) (by decide)) h.ii
end
theorem Zx.rdd {m : Nat} {w : World} {A : Option Addr} {s : List Int} {B : Option Addr} {C : List (Int × Int)} {d : Nat} {D : Option Addr} {O : List (List (Int × Int))} {e : Nat} {X : List Value} (h : Zx m w A s B C d D O e X) : ∀ k, k < X.length → ∃ b o, D = some ⟨b, o, none⟩ ∧ w.cell? ⟨b, o + k, none⟩ = X[k]? :=
  fun k hk => by obtain ⟨b, o, h1, _, h3⟩ := h.rd k hk; exact ⟨b, o, h1, h3⟩
/-- a set, in a slice -/
def S5 (n : Nat) (A : Option Addr) (k c : Nat) (w : World) : Prop := ∃ S : List Int, k = S.length ∧ setB n S = true ∧ RI w A S ∧ (A = none → S = [] ∧ c = 0)
theorem S5.of {n b : Nat} {S : List Int} {A : Option Addr} {c : Nat} {w : World} (h : setB n S = true) (ho : OwnI w b (.slice A S.length c) S) : S5 n A S.length c w := by
  obtain ⟨A', c', e, h1, h2⟩ := ho.form2
  injection e with e1 _ e3
  subst e1; subst e3
  exact ⟨S, rfl, h, h1, h2⟩
theorem S5.below {n : Nat} {A : Option Addr} {k c : Nat} {w w' : World} (h : S5 n A k c w) (hb : Below w.heap.size w w') : S5 n A k c w' := by
  obtain ⟨S, h1, h2, h3, h4⟩ := h
  exact ⟨S, h1, h2, h3.below hb, h4⟩
/-- x's box and its parts, under way -/
structure R6 (m : Nat) (q : Option Nat) (P4 P6 : World → Prop) (w : World) : Prop where
  bx : ∀ g, q = some g → m ≤ g ∧ Blk w g 28 #[.slice none 0 0, .slice none 0 0, .slice none 0 0]
  p4 : P4 w
  p6 : P6 w
section
variable {m p : Nat} {q : Option Nat} {P4 P6 : World → Prop} {w w' : World}
theorem R6.read4 (h : R6 m q (fun _ => True) (fun _ => True) w) (hg : w.grownBy w' (some p)) (hp : p < m) (h4 : P4 w') : R6 m q P4 (fun _ => True) w' :=
  ⟨fun g e => ⟨(h.bx g e).1, (h.bx g e).2.grown hg (fun e' => by injection e'; have := (h.bx g e).1; omega)⟩, h4, trivial⟩
theorem R6.read6 (h : R6 m q P4 (fun _ => True) w) (hb : Below w.heap.size w w') (h6 : P6 w') : R6 m q (fun _ => True) P6 w' :=
  ⟨fun g e => ⟨(h.bx g e).1, (h.bx g e).2.below hb (h.bx g e).2.lt⟩, trivial, h6⟩
theorem R6.box (h : R6 m none P4 P6 w) (hm : m ≤ w.heap.size) (h4 : P4 w → P4 (w.alloc (.cells #[.slice none 0 0, .slice none 0 0, .slice none 0 0] 28))) (h6 : P6 w → P6 (w.alloc (.cells #[.slice none 0 0, .slice none 0 0, .slice none 0 0] 28))) :
    R6 m (some w.heap.size) P4 P6 (w.alloc (.cells #[.slice none 0 0, .slice none 0 0, .slice none 0 0] 28)) :=
  ⟨fun g e => by injection e with e; subst e; exact ⟨hm, Blk.new _ _ _⟩, h4 h.p4, h6 h.p6⟩
end
theorem tup_inj {a b c a' b' c' : Value} {x x' : Int} (h : Value.tuple #[.agg #[a, b, c], .int .i64 x] = .tuple #[.agg #[a', b', c'], .int .i64 x']) : a = a' ∧ b = b' ∧ c = c' ∧ x = x' := by
  injection h with h
  injection h with h
  injection h with h1 h2
  injection h2 with h2 _
  injection h2 with _ h2
  injection h1 with h1
  injection h1 with h1
  injection h1 with h3 h4
  injection h4 with h4 h5
  injection h5 with h5 _
  exact ⟨h3, h4, h5, h2⟩
theorem st6 {p q : Nat} {v1 v2 v3 : Value} {W w : World} (hs : SrcOk w p) (hg : W.grownBy w (some p)) (hp : p < W.heap.size) (hq : W.heap.size ≤ q) (hk : Blk w q 28 #[.slice none 0 0, .slice none 0 0, .slice none 0 0]) (hx : XO W.heap.size w v1 v2 v3) :
    (SrcOk (((w.setCell ⟨q, 0, none⟩ v1).setCell ⟨q, 1, none⟩ v2).setCell ⟨q, 2, none⟩ v3) p ∧ W.grownBy (((w.setCell ⟨q, 0, none⟩ v1).setCell ⟨q, 1, none⟩ v2).setCell ⟨q, 2, none⟩ v3) (some p)) ∧
    (Blk (((w.setCell ⟨q, 0, none⟩ v1).setCell ⟨q, 1, none⟩ v2).setCell ⟨q, 2, none⟩ v3) q 28 #[v1, v2, v3] ∧ XO W.heap.size (((w.setCell ⟨q, 0, none⟩ v1).setCell ⟨q, 1, none⟩ v2).setCell ⟨q, 2, none⟩ v3) v1 v2 v3) := by
  have hne : ∀ k, some q = some k → p < k := fun k e => by injection e; omega
  have k1 := hk.set_ 0 v1
  have k2 := k1.set_ 1 v2
  refine ⟨⟨((hs.other (grownBy_setCell w q 0 v1) hne).other (grownBy_setCell _ q 1 v2) hne).other (grownBy_setCell _ q 2 v3) hne, ((((Near.of_grown hg (Nat.le_refl _)).setCell (q := ⟨q, 0, none⟩) hq v1).setCell (q := ⟨q, 1, none⟩) hq v2).setCell (q := ⟨q, 2, none⟩) hq v3).grown⟩, k2.set_ 2 v3, ((hx.box hk (grownBy_setCell w q 0 v1)).box k1 (grownBy_setCell _ q 1 v2)).box k2 (grownBy_setCell _ q 2 v3)⟩
/-- the box of a pair -/
def BxP (m : Nat) (q : Option Nat) (w : World) : Prop := ∀ g, q = some g → m ≤ g ∧ Blk w g 42 #[.int .i64 0, .int .i64 0]
theorem BxP.read {m p : Nat} {q : Option Nat} {w w' : World} (h : BxP m q w) (hg : w.grownBy w' (some p)) (hp : p < m) : BxP m q w' := fun g e => ⟨(h g e).1, (h g e).2.grown hg (fun e' => by injection e'; have := (h g e).1; omega)⟩
theorem BxP.new {m : Nat} {w : World} (hm : m ≤ w.heap.size) : BxP m (some w.heap.size) (w.alloc (.cells #[.int .i64 0, .int .i64 0] 42)) := fun g e => by injection e with e; subst e; exact ⟨hm, Blk.new _ _ _⟩
theorem st8 {p q : Nat} {x y : Int} {W w : World} (hs : SrcOk w p) (hg : W.grownBy w (some p)) (hp : p < W.heap.size) (hq : W.heap.size ≤ q) (hk : Blk w q 42 #[.int .i64 0, .int .i64 0]) :
    (SrcOk ((w.setCell ⟨q, 0, none⟩ (.int .i64 x)).setCell ⟨q, 1, none⟩ (.int .i64 y)) p ∧ W.grownBy ((w.setCell ⟨q, 0, none⟩ (.int .i64 x)).setCell ⟨q, 1, none⟩ (.int .i64 y)) (some p)) ∧
    Blk ((w.setCell ⟨q, 0, none⟩ (.int .i64 x)).setCell ⟨q, 1, none⟩ (.int .i64 y)) q 42 #[.int .i64 x, .int .i64 y] := by
  have hne : ∀ k, some q = some k → p < k := fun k e => by injection e; omega
  exact ⟨⟨(hs.other (grownBy_setCell w q 0 _) hne).other (grownBy_setCell _ q 1 _) hne, (((Near.of_grown hg (Nat.le_refl _)).setCell (q := ⟨q, 0, none⟩) hq _).setCell (q := ⟨q, 1, none⟩) hq _).grown⟩, (hk.set_ 0 _).set_ 1 _⟩
/-- the new obligation, under way -/
structure J21 (WR : World) (o : Option Value) (l1 : List (Int × Int)) (g11 : Option Nat) (pr : Int × Int) (w : World) : Prop where
  bel : Below WR.heap.size WR w
  p : ∀ v, o = some v → OwnP w WR.heap.size v l1
  e : ∀ g, g11 = some g → OwnP w WR.heap.size (.slice (some ⟨g, 0, none⟩) 1 1) [pr]
  ne : ∀ v g, o = some v → g11 = some g → l1 = [] → v.ownBlock ≠ some g
def J21e (WR : World) (v : Value) (l : List (Int × Int)) (w : World) : Prop := Below WR.heap.size WR w ∧ OwnP w WR.heap.size v l
section
variable {WR w w' : World} {o : Option Value} {l1 li : List (Int × Int)} {g11 : Option Nat} {pr : Int × Int} {v v' : Value}
theorem J21.start (WR : World) (pr : Int × Int) : J21 WR none [] none pr WR := ⟨Below.refl _ _, fun v e => (by cases e), fun v e => (by cases e), fun v g e => (by cases e)⟩
theorem J21.low (h : J21 WR o l1 g11 pr w) (hb : Below w.heap.size w w') : J21 WR o l1 g11 pr w' :=
  ⟨h.bel.trans (hb.mono h.bel.size), fun v e => ownsRow_below (h.p v e) hb, fun g e => ownsRow_below (h.e g e) hb, h.ne⟩
theorem J21.emp (h : J21 WR none l1 g11 pr w) : J21 WR (some (.slice (some ⟨w.heap.size, 0, none⟩) 0 0)) [] g11 pr (w.alloc (.cells #[] 42)) :=
  { bel := h.bel.trans ((newB _ _).mono h.bel.size)
    p := fun v e => by injection e with e; subst e; exact World.ownsRow_made w #[] 0 h.bel.size (by decide) (by simp)
    e := fun g e => ownsRow_below (h.e g e) (newB _ _)
    ne := fun v g e e2 _ e3 => by
      injection e with e; subst e
      simp only [Value.ownBlock, Option.some.injEq] at e3
      have := (World.ownsRow.lt (h.e g e2) g rfl).2
      omega }
theorem J21.one (h : J21 WR o l1 none pr w) : J21 WR o l1 (some w.heap.size) pr (w.alloc (.cells #[.int .i64 pr.1, .int .i64 pr.2] 42)) :=
  { bel := h.bel.trans ((newB _ _).mono h.bel.size)
    p := fun v e => ownsRow_below (h.p v e) (newB _ _)
    e := fun g e => by injection e with e; subst e; exact own_onePr w pr _ h.bel.size
    ne := fun v g e e2 _ e3 => by
      injection e2 with e2; subst e2
      have := (World.ownsRow.lt (h.p v e) _ e3).2
      omega }
theorem J21.app (h : J21 WR (some v) [] g11 pr w) (ho : OwnP w' WR.heap.size v' li) (hb : Below WR.heap.size w w') (hg : w.grownBy w' v.ownBlock) (hli : li ≠ []) : J21 WR (some v') li g11 pr w' :=
  { bel := h.bel.trans hb
    p := fun u e => by injection e with e; subst e; exact ho
    e := fun g e => World.ownsRow.kept (h.e g e) hg (.inr fun e' => h.ne v g rfl e rfl e'.symm)
    ne := fun u g _ _ e => absurd e hli }
end
theorem src_ne {w : World} {p : Nat} {cs : Array Value} (h : SrcOk w p) (k : Blk w p 28 cs) : False := by
  obtain ⟨A, l, c, a, h, _⟩ := h
  unfold Blk at h k
  rw [h] at k
  simp only [Option.some.injEq, Obj.cells.injEq] at k
  exact absurd k.2.1 (by decide)
set_option maxRecDepth 100000 in
theorem exec_sl {a : Act} {o : Oper} {w : World} {s i : Operand} {vs r : Value} {k : Int} (ho : o.op = .slice 22 s (some i) none none) (hs : a.eval s = vs) (hi : a.eval i = .int .i64 k) (h : (Instr.slice 22 vs (some (.int .i64 k)) none none).run Tryd.prog w = .ok r w) :
    (execOp a.eval o).run Tryd.prog w = .ok (.value r) w := by
  have e : (Instr.sliceAt 22 vs (some (.int .i64 k)) none none).run Tryd.prog w = .ok r w := by
    rw [run_sliceAt_slice w 22 vs _ _ _ Tryd.underlying22]; exact h
  simp [execOp, ho, hs, hi, Result.andThen, e]
theorem pA {α : Type} (l : List α) (i : Nat) (a : α) : l.toArray.setIfInBounds i a = (l.set i a).toArray := List.setIfInBounds_toArray ..
theorem gA {α : Type} (l : List α) (i : Nat) : l.toArray[i]? = l[i]? := List.getElem?_toArray
theorem pB {α : Type} (x : α) (l : List α) (a : α) : (x :: l).set 0 a = a :: l := List.set_cons_zero
theorem pC {α : Type} (x : α) (l : List α) (n : Nat) (a : α) : (x :: l).set (n + 1) a = x :: l.set n a := List.set_cons_succ
section
variable {P : Program} {ops : Array Oper} {Q : Exit → Act → World → Prop} {S : World → Prop} {es L : List Nat} {n : Nat} {a : Act}
theorem wkS {F : Option Addr → Nat → Nat → World → Prop} {A : Option Addr} {m c : Nat} (h : TxtT P ops Q S es n L (fun w => F A m c w) a) : TxtT P ops Q S es n L (fun w => ∃ A' m' c', Value.slice A m c = Value.slice A' m' c' ∧ F A' m' c' w) a :=
  TxtT.weakJ (J2 := fun w => F A m c w) (fun w1 h => by obtain ⟨a', b', c', hq, h⟩ := h; simp only [Value.slice.injEq] at hq; obtain ⟨hq1, hq2, hq3⟩ := hq; subst hq1; subst hq2; subst hq3; exact h) h
theorem wkP {F : Nat → World → Prop} {q : Nat} (h : TxtT P ops Q S es n L (fun w => F q w) a) : TxtT P ops Q S es n L (fun w => ∃ q', Value.pointer (some ⟨q, 0, none⟩) = Value.pointer (some ⟨q', 0, none⟩) ∧ F q' w) a :=
  TxtT.weakJ (J2 := fun w => F q w) (fun w1 h => by obtain ⟨q', hq, h⟩ := h; injection hq with hq; injection hq with hq; injection hq with hq _ _; subst hq; exact h) h
theorem wkG {F : Nat → World → Prop} {g m c : Nat} (h : TxtT P ops Q S es n L (fun w => F g w) a) : TxtT P ops Q S es n L (fun w => ∃ g', Value.slice (some ⟨g, 0, none⟩) m c = Value.slice (some ⟨g', 0, none⟩) m c ∧ F g' w) a :=
  TxtT.weakJ (J2 := fun w => F g w) (fun w1 h => by obtain ⟨q', hq, h⟩ := h; injection hq with hq; injection hq with hq; injection hq with hq _ _; subst hq; exact h) h
end
end Go.Proofs.YtncimnfhfomddaaDoor
