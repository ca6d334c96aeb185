/- law15.has. -/
import Derived.Test.YtcpombepajapjaaDoorSml
namespace Go.Proofs.YtcpombepajapjaaDoor
open Go.ChangeShapes Go.WideShapes Go.ChangeAt Go.RowKit

/-- a list of L equals x, and its places of label 1 are s -/
def hasP (x s l : List Int) : Bool := eqB l x && eqB (withL l 1) s

theorem has_self {L : List (List Int)} {x : List Int} (h : x ∈ L) : L.any (hasP x (withL x 1)) = true := by
  refine List.any_eq_true.2 ⟨x, h, ?_⟩
  unfold hasP
  rw [(eqB_iff _ _).2 rfl, (eqB_iff _ _).2 rfl]; rfl

set_option maxRecDepth 100000 in
set_option maxHeartbeats 2000000 in
theorem has15_any (A B C : Option Addr) (L : List (List Int)) (x s : List Int) (ca cb cc : Nat) (w : World) (hL : RS w A L) (hx : RI w B x) (hs : RI w C s) (hlL : L.length ≤ 100000) (hll : ∀ z ∈ L, z.length ≤ 1000) (hlx : x.length ≤ 100000) (hls : s.length ≤ 100000) :
    Calls Tryd.prog 27 #[.slice A L.length ca, .slice B x.length cb, .slice C s.length cc] w (RetB (.bool (L.any (hasP x s))) w) := by
  obtain ⟨R, hR⟩ : ∃ R, L.any (hasP x s) = R := ⟨_, rfl⟩
  rw [hR]
  have HR := Lib.hid hR; have Hll := Lib.hid hll
  clear hR hll
  go_enter Tryd.func27, Tryd.ntmps27
  go_wp2_with fail
  go_loopw [11] (fun i wr => ∃ k : Nat, k ≤ L.length ∧ i = .int .i64 k ∧ (L.take k).any (hasP x s) = false ∧ Below w.heap.size w wr) (fun i _ => L.length - (intOf i).toNat)
  case atStart => exact ⟨0, Nat.zero_le _, rfl, by simp, Below.refl _ _⟩
  case round =>
    obtain ⟨k, hk, rfl, hi, hbl⟩ := hrel
    have Hi := Lib.hid hi; clear hi
    by_cases hlt : k < L.length
    case neg =>
      have hall : L.any (hasP x s) = false := by have := Hi.out; rwa [List.take_of_length_le (by omega)] at this
      have Hall := Lib.hid hall
      clear hall
      go_wp2_with fail
      go_ret
      exact ⟨rb (by rw [← HR.out, Hall.out]), hbl⟩
    case pos =>
    have hlt' : (k : Int) < (L.length : Int) := by omega
    obtain ⟨b, o, AX, cx, hA, hcell, hri⟩ := (hL.below hbl).at_ hlt
    subst hA
    have hstp := any_stepX (hasP x s) L hlt
    rw [Hi.out, Bool.false_or] at hstp
    have hlz := Hll.out _ (List.getElem_mem hlt)
    have hany : hasP x s L[k] = true → L.any (hasP x s) = true := fun h => List.any_eq_true.2 ⟨_, List.getElem_mem hlt, h⟩
    obtain ⟨z, hz⟩ : ∃ z, L[k] = z := ⟨_, rfl⟩
    rw [hz] at hcell hri hlz hany hstp
    have Hstp := Lib.hid hstp; have Hany := Lib.hid hany
    have hq := ints_any AX B z x cx cb wr (by omega) (by omega) hri (hx.below hbl)
    obtain ⟨q1, hq1⟩ : ∃ q, eqB z x = q := ⟨_, rfl⟩
    rw [hq1] at hq
    obtain ⟨q2, hq2⟩ : ∃ q, eqB (withL z 1) s = q := ⟨_, rfl⟩
    have hp : hasP x s z = (q1 && q2) := by unfold hasP; rw [hq1, hq2]
    have Hq := Lib.hid hq; have Hp := Lib.hid hp; have Hq2 := Lib.hid hq2
    clear hstp hany hz hq hq1 hp hq2
    cases q1
    · go_wp2_with fail
      refine Hq.out.mono ?_
      rintro e w1 hret
      obtain ⟨rfl, hb1⟩ := hret.below
      clear hret
      go_wp2_with fail
      go_roundw
      case rel => exact ⟨k + 1, by omega, by go_num, by rw [Hstp.out, Hp.out]; rfl, endB hbl hb1⟩
      case measure => simp [intOf]; omega
    · go_wp2_with fail
      refine Hq.out.mono ?_
      rintro e w1 hret
      obtain ⟨rfl, hb1⟩ := hret.below
      clear hret
      have hw := with_any AX z cx 1 w1 (hri.below hb1) (by omega)
      have Hw := Lib.hid hw
      clear hw
      go_wp2_with fail
      refine Hw.out.mono ?_
      rintro e w2 ⟨A2, c2, rfl, _, hr2, _, hb2⟩
      have hb12 := endB hb1 hb2
      have hlw : (withL z 1).length ≤ 100000 := Nat.le_trans (nodesB_length _ _) (by omega)
      have h3 := ints_any A2 C (withL z 1) s c2 cc w2 (by omega) (by omega) hr2 (hs.below (endB hbl hb12))
      rw [Hq2.out] at h3
      have H3 := Lib.hid h3
      clear h3 hr2
      go_wp2_with fail
      refine H3.out.mono ?_
      rintro e w3 hret
      obtain ⟨rfl, hb3⟩ := hret.below
      clear hret
      have hb13 := endB hb12 hb3
      cases q2
      · go_wp2_with fail
        go_roundw
        case rel => exact ⟨k + 1, by omega, by go_num, by rw [Hstp.out, Hp.out]; rfl, endB hbl hb13⟩
        case measure => simp [intOf]; omega
      · go_wp2_with fail
        go_ret
        exact ⟨rb (by rw [← HR.out, Hany.out (by rw [Hp.out]; rfl)]), endB hbl hb13⟩
end Go.Proofs.YtcpombepajapjaaDoor
