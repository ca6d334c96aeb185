import Derived.Test.YtncimnfhfomddaaDoorPvW
import Derived.Test.YtncimnfhfomddaaDoorRdW
/- net.Pairs, net.Same; law21.awake. -/
namespace Go.Proofs.YtncimnfhfomddaaDoor
open Go.ChangeShapes Go.WideShapes Go.ChangeAt Go.RowKit

theorem take_eq_stepP {a b : List (Int × Int)} {k : Nat} (h : k < a.length) (h' : k < b.length) (h0 : a.take k = b.take k) (hx : a[k] = b[k]) : a.take (k + 1) = b.take (k + 1) := by
  rw [List.take_succ_eq_append_getElem h, List.take_succ_eq_append_getElem h', h0, hx]
set_option maxRecDepth 100000 in
set_option maxHeartbeats 2000000 in
theorem nwPairs_any (A B : Option Addr) (l m : List (Int × Int)) (c d : Nat) (w : World) (hl : RP w A l) (hm : RP w B m) (hll : l.length ≤ 100000) (hml : m.length ≤ 100000) :
    Calls Tryd.prog 45 #[.slice A l.length c, .slice B m.length d] w (RetB (.bool (decide (l = m))) w) := by
  by_cases h2 : l.length = m.length
  case neg =>
    have hf : decide (l = m) = false := decide_eq_false (fun e => h2 (by rw [e]))
    have Hf := Lib.hid hf
    have hd : (((l.length : Nat) : Int) != ((m.length : Nat) : Int)) = true := by simp; omega
    clear hf h2
    go_enter Tryd.func45, Tryd.ntmps45
    go_wp2_with fail
    go_ret
    exact ⟨rb Hf.out.symm, Below.refl _ _⟩
  have hd : (((l.length : Nat) : Int) != ((m.length : Nat) : Int)) = false := by simp; omega
  have H2 := Lib.hid h2
  clear h2
  go_enter Tryd.func45, Tryd.ntmps45
  go_wp2_with fail
  go_loopw [5] (fun i wr => ∃ k : Nat, k ≤ l.length ∧ i = .int .i64 (k : Int) ∧ l.take k = m.take k ∧ Below w.heap.size w wr) (fun i _ => l.length - (intOf i).toNat)
  case atStart => exact ⟨0, Nat.zero_le _, rfl, by simp, Below.refl _ _⟩
  case round =>
    obtain ⟨k, hk, rfl, he, hbl⟩ := hrel
    have He := Lib.hid he; clear he
    by_cases hlt : k < l.length
    case neg =>
      have hall : decide (l = m) = true := decide_eq_true (by
        have := He.out
        rwa [List.take_of_length_le (by omega), List.take_of_length_le (by have := H2.out; omega)] at this)
      have Hall := Lib.hid hall
      clear hall
      go_wp2_with fail
      go_ret
      exact ⟨rb Hall.out.symm, hbl⟩
    case pos =>
    have hlm : k < m.length := by have := H2.out; omega
    obtain ⟨b, o, rfl, hc0, hc1⟩ := (hl.below hbl).at_ hlt
    obtain ⟨b', o', rfl, hd0, hd1⟩ := (hm.below hbl).at_ hlm
    have hst := fun h => take_eq_stepP hlt hlm He.out h
    have hno : l[k] ≠ m[k] → decide (l = m) = false := fun h => decide_eq_false (fun e => h (by subst e; rfl))
    have Hst := Lib.hid hst; have Hno := Lib.hid hno
    clear hst hno
    generalize l[k] = p at *
    generalize m[k] = q at *
    have hgd := run_gdE
    have hne := run_neqE p.1 p.2 q.1 q.2
    by_cases hx : p = q
    · have hd : (!(p.1 == q.1 && p.2 == q.2)) = false := by rw [hx]; simp
      rw [hd] at hne
      have Hx := Lib.hid (Hst.out hx)
      clear hx hd
      go_wp2_with fail
      go_quiet (fail)
      clear hne hgd
      go_wp2_with fail
      go_roundw
      case rel => exact ⟨k + 1, hlt, by go_num, Hx.out, below_drewN hbl nq⟩
      case measure => simp [intOf]; omega
    · have hd : (!(p.1 == q.1 && p.2 == q.2)) = true := by
        rw [Bool.not_eq_true', Bool.and_eq_false_iff, beq_eq_false_iff_ne, beq_eq_false_iff_ne]
        by_cases h : p.1 = q.1
        · exact .inr (fun e => hx (Prod.ext h e))
        · exact .inl h
      rw [hd] at hne
      have Hx := Lib.hid (Hno.out hx)
      clear hx hd
      go_wp2_with fail
      go_quiet (fail)
      clear hne hgd
      go_wp2_with fail
      go_ret
      exact ⟨rb Hx.out.symm, below_drewN hbl nq⟩
def smB (N : Int) (l : List (Int × Int)) (M : Int) (m : List (Int × Int)) : Bool := decide (N = M) && decide (l = m)
set_option maxRecDepth 100000 in
set_option maxHeartbeats 2000000 in
theorem nwSame_any (A B : Option Addr) (N M : Int) (l m : List (Int × Int)) (c d : Nat) (w : World) (hl : RP w A l) (hm : RP w B m) (hll : l.length ≤ 100000) (hml : m.length ≤ 100000) :
    Calls Tryd.prog 25 #[.agg #[.int .i64 N, .slice A l.length c], .agg #[.int .i64 M, .slice B m.length d]] w (RetB (.bool (smB N l M m)) w) := by
  obtain ⟨r, hr⟩ : ∃ r, smB N l M m = r := ⟨_, rfl⟩
  rw [hr]
  unfold smB at hr
  go_enter Tryd.func25, Tryd.ntmps25
  go_upto_region 1 with fail
  obtain ⟨W0, hW, k0, k1, hb0, hlt0⟩ := boxed2 w 24 24 (.int .i64 N) (.slice A l.length c) (.int .i64 M) (.slice B m.length d)
  rw [hW]
  have hp := nwPairs_any A B l m c d W0 (hl.below hb0) (hm.below hb0) hll hml
  obtain ⟨c0, c1, _, _⟩ := k0.two
  obtain ⟨c2, c3, _, _⟩ := k1.two
  clear hW
  by_cases h1 : N = M
  · rw [decide_eq_true h1, Bool.true_and] at hr
    rw [hr] at hp
    have hd : (N == M) = true := by simp [h1]
    have Hp := Lib.hid hp
    clear hp hr h1
    go_wp2_with fail
    refine Hp.out.mono ?_
    rintro e w2 ⟨rfl, hb2⟩
    go_wp2_with fail
    go_ret
    exact ⟨rfl, endB hb0 hb2⟩
  · rw [decide_eq_false h1, Bool.false_and] at hr
    have hd : (N == M) = false := by simp [h1]
    have Hr := Lib.hid hr
    clear hp hr h1
    go_wp2_with fail
    go_ret
    exact ⟨rb Hr.out, hb0⟩

/- the example -/
def exG : List (Int × Int) := [(1, 0)]
def exC : List (Int × Int) := [(0, 1)]
def exO : List (List (Int × Int)) := [[(0, 1), (1, 0)]]
theorem exV : Vld 2 exG := by
  refine ⟨⟨by decide, by decide, fun p hp => ?_⟩, ?_⟩
  · unfold exG at hp; rw [List.mem_singleton] at hp; subst hp; decide
  · unfold exG; simp
theorem exS : setB (2 : Nat) [0] = true := by decide
theorem exH : hpB (2 : Nat) [0] 1 = false := by decide
theorem exD : dutL 2 exG [0] 1 = exO := by
  rw [← dutR_eq exV.1 exS (.inl rfl)]
  decide
theorem exCh : strC 2 exG [0] 1 = exC := by
  unfold strC
  rw [exD]
  decide
theorem exA : arE (2 : Nat) exG [0] 1 = 0 := by
  have hv : valE (2 : Nat) exG = 0 := by decide
  unfold arE
  rw [if_pos hv, if_pos (.inl rfl), if_pos exS]
theorem exE : stErr (2 : Nat) exG [0] 1 = 0 := by
  unfold stErr
  rw [if_pos exA, exH]; rfl
theorem exK : chkE (2 : Nat) exG 1 [0] exC exO = 0 := by
  have ht : tgErr (2 : Nat) exG exC = 0 := by
    have hv : valE (2 : Nat) exG = 0 := by decide
    unfold tgErr
    rw [if_pos hv]
    exact tgE_ok (by decide) (by decide)
  have hte : tgE (2 : Nat) exC = 0 := tgE_ok (by decide) (by decide)
  have hvt := tgL_vld exV hte (by decide)
  have ha : acB 2 (tgL exG exC) [0] 1 = true := by
    rw [← accR_eq hvt.1 exS (.inl rfl), ← togsR_tgL exV.2 (by decide)]
    decide
  have hp : prB 2 exG [0] 1 exC exO = true := by
    unfold prB
    rw [exD]
    decide
  unfold chkE
  rw [if_pos exA, if_pos ht]
  show (if acB 2 (tgL exG exC) [0] 1 = true then if prB 2 exG [0] 1 exC exO = true then (0 : Int) else 11 else 7) = 0
  rw [if_pos ha, if_pos hp]
theorem exI : ∀ l ∈ exO, ∀ p ∈ l, I64 p := fun l hl p hp => by
  unfold exO at hl
  rw [List.mem_singleton] at hl
  subst hl
  unfold I64
  rcases List.mem_cons.1 hp with rfl | hp
  · decide
  · rw [List.mem_singleton] at hp; subst hp; decide
theorem exRun {w w2 : World} {A : Option Addr} (h : RTo w A exO) (hb : Below w.heap.size w w2) : ∃ b o A' c', A = some ⟨b, o, none⟩ ∧ w2.cell? ⟨b, o, none⟩ = some (.slice A' 2 c') := by
  obtain ⟨b, o, A', c', hA, hc, _⟩ := (h.below hb) 0 (by decide)
  rw [Nat.add_zero] at hc
  exact ⟨b, o, A', c', hA, hc⟩
set_option maxRecDepth 100000 in
set_option maxHeartbeats 4000000 in
theorem awake21_any (w : World) (hT : Tab w) : Calls Tryd.prog 13 #[] w (RetB (.bool true) w) := by
  go_enter Tryd.func13, Tryd.ntmps13
  go_upto_region 2 with fail
  obtain ⟨W0, hW, o0, hb0, hs0⟩ : ∃ W0, w.alloc (.cells #[.int .i64 1, .int .i64 0] 42) = W0 ∧ OwnP W0 w.heap.size (.slice (some ⟨w.heap.size, 0, none⟩) 1 1) exG ∧ Below w.heap.size w W0 ∧ W0.heap.size = w.heap.size + 1 := ⟨_, rfl, own_onePr w (1, 0) _ (Nat.le_refl _), newB _ _, by simp⟩
  rw [hW]
  obtain ⟨W1, hW1, k1, hb1, hs1⟩ := boxG W0 2 (some ⟨w.heap.size, 0, none⟩) 1 1
  rw [hW1]
  have o1 := OwnP.rpr (ownsRow_below o0 hb1 : OwnP W1 w.heap.size (.slice (some ⟨w.heap.size, 0, none⟩) 1 1) exG)
  have hb01 := endB hb0 hb1
  clear hW hW1 o0 hb0 hb1 hs1
  rw [hs0] at k1
  obtain ⟨c0, c1, _, _⟩ := k1.two
  obtain ⟨W2, hW2, o2, hb2⟩ : ∃ W2, W1.alloc (.cells #[.int .i64 0] 3) = W2 ∧ OwnI W2 W1.heap.size (.slice (some ⟨W1.heap.size, 0, none⟩) 1 1) [0] ∧ Below W1.heap.size W1 W2 := ⟨_, rfl, own_one W1 0, newB _ _⟩
  have hi2 := OwnI.ri (l := [0]) (c := 1) o2
  have hb02 := endB hb01 hb2
  have o12 := o1.below hb2
  have k12 := k1.below hb2 k1.lt
  have hst := enStrict_any (some ⟨w.heap.size, 0, none⟩) ((2 : Nat) : Int) exG 1 (some ⟨W1.heap.size, 0, none⟩) [0] 1 1 W2 o12 (by decide) hi2 (fun e => by cases e) (by decide) (hT.below hb02)
  have Hst := Lib.hid hst
  clear hst
  go_wp2_with fail
  refine Hst.out.mono ?_
  rintro e w3 ⟨hb3, h3⟩
  rcases h3 with ⟨h3, _⟩ | ⟨_, AC, cC, AH, cH, AD, cD, rfl, hri, hrp, hrt⟩
  · exact absurd exE h3
  rw [Int.toNat_natCast, exCh] at hrp
  rw [Int.toNat_natCast, exD] at hrt
  rw [Int.toNat_natCast, exCh, exD, show exC.length = 1 from rfl, show exO.length = 1 from rfl]
  have k13 := k12.below hb3 k12.lt
  have hb03 := endB hb02 hb3
  have o13 := o12.below hb3
  obtain ⟨W4, hW4, k4, hb4, hs4⟩ := boxEn w3 (.slice AC 1 cC) (.slice AH 1 cH) (.slice AD 1 cD)
  have k14 := k13.below hb4 k13.lt
  have hb04 := endB hb03 hb4
  have hri4 := hri.below hb4
  have hrp4 := hrp.below hb4
  have hrt4 := hrt.below hb4
  have o14 := o13.below hb4
  obtain ⟨n0, n1, n2, _, _⟩ := k4.threeE
  obtain ⟨W5, hW5, o5, hb5⟩ : ∃ W5, W4.alloc (.cells #[.int .i64 0, .int .i64 1] 42) = W5 ∧ OwnP W5 W4.heap.size (.slice (some ⟨W4.heap.size, 0, none⟩) 1 1) exC ∧ Below W4.heap.size W4 W5 := ⟨_, rfl, own_onePr W4 (0, 1) _ (Nat.le_refl _), newB _ _⟩
  have hp := nwPairs_any AH (some ⟨W4.heap.size, 0, none⟩) exC exC cH 1 W5 (hrp4.below hb5) (OwnP.rpr o5) (by decide) (by decide)
  rw [decide_eq_true (rfl : exC = exC), show exC.length = 1 from rfl, hs4] at hp
  have k15 := k14.below hb5 k14.lt
  have k5 := k4.below hb5 k4.lt
  have hb05 := endB hb04 hb5
  have o15 := o14.below hb5
  have hri5 := hri4.below hb5
  have hrp5 := hrp4.below hb5
  have hrt5 := hrt4.below hb5
  have Hp := Lib.hid hp
  clear hp c0 c1 hri hrp hrt hri4 hrp4 hrt4 o12 o13 o14 k1 k12 k13 k14 k4 o5 hb2 hb3 hb4 hb5 o1 o2 hi2
  go_wp2_with fail
  refine Hp.out.mono ?_
  rintro e w6 ⟨rfl, hb6⟩
  have k16 := k15.below hb6 k15.lt
  have k6 := k5.below hb6 k5.lt
  have hb06 := endB hb05 hb6
  have hck := enCheck_any (some ⟨w.heap.size, 0, none⟩) ((2 : Nat) : Int) exG 1 1 AC [0] cC AH exC cH AD exO cD w6 (o15.below hb6) (by decide) (hri5.below hb6) (by decide) (hT.below hb06) (hrp5.below hb6) (hrt5.below hb6) (by decide) (by decide) exI
  rw [exK, show exC.length = 1 from rfl, show exO.length = 1 from rfl, show exG.length = 1 from rfl] at hck
  obtain ⟨b, o, A', c', rfl, hcell⟩ := exRun hrt5 hb6
  clear n0 n1 n2 hri5 hrp5 hrt5 k15 k5 o15
  obtain ⟨n0, n1, n2, _, _⟩ := k6.threeE
  obtain ⟨c0, c1, _, _⟩ := k16.two
  have Hck := Lib.hid hck
  clear hck
  go_wp2_with fail
  refine Hck.out.mono ?_
  rintro e w7 ⟨rfl, hb7⟩
  go_wp2_with fail
  go_ret
  exact ⟨rfl, endB hb06 hb7⟩
end Go.Proofs.YtncimnfhfomddaaDoor
