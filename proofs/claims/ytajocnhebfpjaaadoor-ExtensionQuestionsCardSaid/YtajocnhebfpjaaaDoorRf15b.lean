/- ref15.Stable. -/
import Derived.Test.YtajocnhebfpjaaaDoorRf15
namespace Go.Proofs.YtajocnhebfpjaaaDoor
open Go.ChangeShapes Go.WideShapes Go.ChangeAt Go.RowKit

theorem withL_ne {l : List Int} {x : Int} : 0 < (withL l x).length ↔ x ∈ l := by
  unfold withL
  rw [List.length_pos_iff_exists_mem]
  constructor
  · rintro ⟨z, hz⟩
    obtain ⟨i, hi, hp, rfl⟩ := mem_nodesB.1 hz
    have e : l.getD i 0 = l[i] := by simp [List.getD, hi]
    rw [e, beq_iff_eq] at hp
    rw [← hp]
    exact List.getElem_mem hi
  · intro h
    obtain ⟨i, hi, rfl⟩ := List.mem_iff_getElem.1 h
    exact ⟨(i : Int), mem_nodesB.2 ⟨i, hi, by simp [List.getD, hi], rfl⟩⟩
theorem stab_in (z x : List Int) : stabP z x = inB x 3 := by
  rw [Bool.eq_iff_iff, inB_iff]
  unfold stabP placesL
  rw [decide_eq_true_iff]
  simp only [List.flatMap_cons, List.flatMap_nil, List.append_nil]
  exact withL_ne
theorem stab_any {L : List (List Int)} {x : List Int} (hx : x ∈ L) : (L.any fun z => stabP z x) = inB x 3 := by
  rw [Bool.eq_iff_iff, List.any_eq_true]
  exact ⟨fun ⟨z, _, h⟩ => by rwa [stab_in] at h, fun h => ⟨x, hx, by rw [stab_in]; exact h⟩⟩

set_option maxRecDepth 100000 in
set_option maxHeartbeats 4000000 in
theorem r15Stable_any (A : Option Addr) (N : Int) (l : List (Int × Int)) (c : Nat) (w : World) (hr : RP w A l) (hlen : l.length ≤ 100000) (hT : Tab w) :
    Calls Tryd.prog 40 #[.agg #[.int .i64 N, .slice A l.length c]] w (RetLE (bestR stabP N l) w) := by
  go_enter Tryd.func40, Tryd.ntmps40
  go_upto_region 1 with fail
  obtain ⟨W0, hW, d0, d1, hb0, hlt0⟩ := boxed w 24 (.int .i64 N) (.slice A l.length c)
  rw [hW]
  clear hW
  obtain ⟨C, hC⟩ : ∃ C, compR N l = C := ⟨_, rfl⟩
  have hcc := r14Complete_any A N l c W0 (hr.below hb0) hlen (hT.below hb0)
  obtain ⟨hs1, hs2⟩ := compR_sm N l
  have hbest : bestR stabP N l = if C.2 = 0 then (keptL stabP C.1, 0) else ([], C.2) := by unfold bestR; rw [hC]
  rw [hC] at hcc hs1 hs2
  have Hcc := Lib.hid hcc; have Hbest := Lib.hid hbest; have Hs2 := Lib.hid hs2
  clear hcc hbest hs2 hC
  obtain ⟨L, x⟩ := C
  have hs1' : L.length ≤ 200 := hs1
  clear hs1
  go_wp2_with fail
  refine Hcc.out.mono ?_
  rintro e W5 ⟨A5, c5, rfl, hr5, hn5, hb5⟩
  have hB5 := endB hb0 hb5
  have hr5' : RSo W5 A5 L := hr5
  have Hr5 := Lib.hid hr5'
  clear Hcc hr5 hr5' hn5 d0 d1
  by_cases hx0 : x = 0
  case neg =>
    have hxb : (x == 0) = false := beq_eq_false_iff_ne.2 hx0
    have hres : bestR stabP N l = ([], x) := by rw [Hbest.out]; exact if_neg hx0
    have Hres := Lib.hid hres
    clear hres
    go_wp2_with fail
    go_ret2
    rw [Hres.out]
    exact ⟨none, 0, rfl, RSo.nil _ _, fun _ => ⟨rfl, rfl⟩, hB5⟩
  case pos =>
  subst hx0
  have hres : bestR stabP N l = (keptL stabP L, 0) := by rw [Hbest.out]; exact if_pos rfl
  have Hres := Lib.hid hres
  clear hres Hbest
  go_wp2_with fail
  go_loopw [6, 7] (fun v i wr => ∃ (k : Nat) (xs : List Value), k ≤ L.length ∧ i = .int .i64 k ∧ OwnS wr W5.heap.size v xs ∧ OwnL W5 0 xs ((L.take k).filter fun x => !(L.any fun z => stabP z x)) ∧ Below W5.heap.size W5 wr) (fun _ i _ => L.length - (intOf i).toNat)
  case atStart => exact ⟨0, [], Nat.zero_le _, rfl, OwnS.nil _ _, OwnL.nil _ _, Below.refl _ _⟩
  case round =>
    obtain ⟨k, xs, hk, rfl, hown, hol, hbl⟩ := hrel
    have Hol := Lib.hid hol
    clear hol
    by_cases hlt : k < L.length
    case neg =>
      have hol := Hol.out
      rw [List.take_of_length_le (by omega)] at hol
      obtain ⟨A6, c6, rfl, hr6, hn6⟩ := OwnS.forms2 hown (hol.below hbl)
      have hkp : (L.filter fun x => !(L.any fun z => stabP z x)) = keptL stabP L := rfl
      rw [hkp] at hr6 hn6
      rw [hkp]
      obtain ⟨K, hK⟩ : ∃ K, keptL stabP L = K := ⟨_, rfl⟩
      rw [hK] at hr6 hn6
      rw [hK]
      have HK := Lib.hid hK; have Hr6 := Lib.hid hr6; have Hn6 := Lib.hid hn6
      clear hol hkp hK hr6 hn6 hown
      go_wp2_with fail
      go_ret2
      rw [Hres.out, HK.out]
      exact ⟨A6, c6, rfl, Hr6.out, Hn6.out, endB hB5 hbl⟩
    case pos =>
    have hlt' : (k : Int) < (L.length : Int) := by omega
    have hk0 : (0 : Int) ≤ (k : Int) := by omega
    obtain ⟨b, o, AX, cx, hA, hcell5, hox, hri5⟩ := Hr5.out k hlt
    subst hA
    have hcell := (hbl.cell (lt_of_cell hcell5)).trans hcell5
    have hlx := Hs2.out _ (List.getElem_mem hlt)
    have hst := filter_stepX (fun x => !(L.any fun z => stabP z x)) L hlt
    have hany := stab_any (List.getElem_mem hlt)
    obtain ⟨y, hy⟩ : ∃ y, L[k] = y := ⟨_, rfl⟩
    rw [hy] at hcell hox hri5 hlx hst hany
    rw [hany] at hst
    have hly : y.length ≤ 100 := hlx
    have hxs : xs.length ≤ 1000000 := by
      have h1 := Hol.out.1
      have h2 := List.length_filter_le (fun x => !(L.any fun z => stabP z x)) (L.take k)
      have h3 := List.length_take_le' k L
      omega
    have Hst := Lib.hid hst; have Hxs := Lib.hid hxs; have Hown := Lib.hid hown; have Hox := Lib.hid hox
    have Hin := Lib.hid (r11In_any AX y cx 3 wr (by omega) (hri5.below hbl))
    clear hst hxs hown hox hy hcell5 hlx hany
    go_wp2_with fail
    refine Hin.out.mono ?_
    rintro e W7 ⟨rfl, hW7⟩
    subst hW7
    cases hq : inB y 3
    · have Hq := Lib.hid hq; clear hq
      go_wp2_with (at_builtin; refine wpList_appS (by rfl) (.tmp 28) (.tmp 33) (by rfl) wr W5.heap.size _ xs AX y.length cx Hown.out (by rfl) (by rfl) Hxs.out hbl.size ?_; intro v' w3 hown' hb3 hg3)
      go_roundw
      case rel => exact ⟨k + 1, _, by omega, by go_num, hown', by rw [Hst.out, Hq.out]; exact Hol.out.snoc Hox.out, hbl.trans hb3⟩
      case measure => simp [intOf]; omega
    · have Hq := Lib.hid hq; clear hq
      go_wp2_with fail
      go_roundw
      case rel => exact ⟨k + 1, xs, by omega, by go_num, Hown.out, by rw [Hst.out, Hq.out]; simpa using Hol.out, hbl⟩
      case measure => simp [intOf]; omega
end Go.Proofs.YtajocnhebfpjaaaDoor
