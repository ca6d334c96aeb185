import Derived.Test.YtcpombepajapjaaDoorExt
/- ref15: in, Some, All; keep.SmallLists. -/
namespace Go.Proofs.YtcpombepajapjaaDoor
open Go.ChangeShapes Go.WideShapes Go.ChangeAt Go.RowKit

set_option maxHeartbeats 1000000 in
theorem r15Proper_any (A B : Option Addr) (a b : List Int) (ca cb : Nat) (w : World) (hn : a.length ≤ 100000) (hm : b.length ≤ 100000) (ha : RI w A a) (hb : RI w B b) :
    Calls Tryd.prog 23 #[.slice A a.length ca, .slice B b.length cb] w (Ret (.bool (withinB a b)) w) := by
  obtain ⟨R, hR⟩ : ∃ R, withinB a b = R := ⟨_, rfl⟩
  rw [hR]
  have HR := Lib.hid hR
  clear hR
  go_enter Tryd.func23, Tryd.ntmps23
  go_wp2_with fail
  go_loop [5] (fun i => ∃ k : Nat, k ≤ a.length ∧ i = .int .i64 k ∧ insideB (a.take k) b = true) (fun i => a.length - (intOf i).toNat)
  case atStart => exact ⟨0, Nat.zero_le _, rfl, by simp [insideB]⟩
  case round =>
    obtain ⟨k, hk, rfl, hi⟩ := hrel
    have Hi := Lib.hid hi; clear hi
    by_cases hlt : k < a.length
    case neg =>
      have hin : insideB a b = true := insideB_all hlt Hi.out
      have Hin := Lib.hid hin
      clear hin
      by_cases hab : a.length < b.length
      · have hd : decide ((a.length : Int) < (b.length : Int)) = true := by rw [decide_eq_true_iff]; omega
        have Hab := Lib.hid hab; clear hab
        go_wp2_with fail
        go_ret
        exact ⟨rb (by rw [← HR.out]; unfold withinB; rw [Hin.out, decide_eq_true Hab.out]; rfl), rfl⟩
      · have hd : decide ((a.length : Int) < (b.length : Int)) = false := by rw [decide_eq_false_iff_not]; omega
        have Hab := Lib.hid hab; clear hab
        go_wp2_with fail
        go_ret
        exact ⟨rb (by rw [← HR.out]; unfold withinB; rw [decide_eq_false Hab.out]; rfl), rfl⟩
    case pos =>
    have hlt' : (k : Int) < (a.length : Int) := by omega
    obtain ⟨bb, o, rfl, hc⟩ := ha.at_ hlt
    have hmiss : inB b a[k] = false → insideB a b = false := insideB_miss hlt
    have hstp : inB b a[k] = true → insideB (a.take (k + 1)) b = true := insideB_take_succ hlt Hi.out
    obtain ⟨y, hy⟩ : ∃ y, a[k] = y := ⟨_, rfl⟩
    rw [hy] at hc hmiss hstp
    have Hm := Lib.hid hmiss; have Hs := Lib.hid hstp
    have H := Lib.hid (r11In_any B b cb y w (by omega) hb)
    clear hmiss hstp hy
    go_wp2_with fail
    refine H.out.mono ?_
    rintro e w1 ⟨rfl, rfl⟩
    cases hp : inB b y
    · have Hp := Lib.hid hp; clear hp
      go_wp2_with fail
      go_ret
      exact ⟨rb (by rw [← HR.out]; unfold withinB; rw [Hm.out Hp.out, Bool.and_false]), rfl⟩
    · have Hp := Lib.hid hp; clear hp
      go_wp2_with fail
      go_round
      case rel => exact ⟨k + 1, by omega, by go_num, Hs.out Hp.out⟩
      case measure => simp [intOf]; omega
end Go.Proofs.YtcpombepajapjaaDoor

/- ref15.Stable. -/
namespace Go.Proofs.YtcpombepajapjaaDoor
open Go.ChangeShapes Go.WideShapes Go.ChangeAt Go.RowKit

theorem withL_ne {l : List Int} {x : Int} : 0 < (withL l x).length ↔ x ∈ l := by
  unfold withL
  rw [List.length_pos_iff_exists_mem]
  constructor
  · rintro ⟨z, hz⟩
    obtain ⟨i, hi, hp, rfl⟩ := mem_nodesB.1 hz
    have e : l.getD i 0 = l[i] := by simp [List.getD, hi]
    rw [e, beq_iff_eq] at hp
    rw [← hp]
    exact List.getElem_mem hi
  · intro h
    obtain ⟨i, hi, rfl⟩ := List.mem_iff_getElem.1 h
    exact ⟨(i : Int), mem_nodesB.2 ⟨i, hi, by simp [List.getD, hi], rfl⟩⟩
theorem stab_in (z x : List Int) : stabP z x = inB x 3 := by
  rw [Bool.eq_iff_iff, inB_iff]
  unfold stabP placesL
  rw [decide_eq_true_iff]
  simp only [List.flatMap_cons, List.flatMap_nil, List.append_nil]
  exact withL_ne
theorem stab_any {L : List (List Int)} {x : List Int} (hx : x ∈ L) : (L.any fun z => stabP z x) = inB x 3 := by
  rw [Bool.eq_iff_iff, List.any_eq_true]
  exact ⟨fun ⟨z, _, h⟩ => by rwa [stab_in] at h, fun h => ⟨x, hx, by rw [stab_in]; exact h⟩⟩

end Go.Proofs.YtcpombepajapjaaDoor

/- ref15.Preferred, ref15.SemiStable. -/
namespace Go.Proofs.YtcpombepajapjaaDoor
open Go.ChangeShapes Go.WideShapes Go.ChangeAt Go.RowKit

theorem all_stepX {α : Type} (p : α → Bool) (L : List α) {k : Nat} (h : k < L.length) : (L.take (k + 1)).all p = ((L.take k).all p && p L[k]) := by
  rw [List.take_succ_eq_append_getElem h, List.all_append]; simp
theorem places_one (l : List Int) (v : Int) : placesL l [v] = withL l v := by simp [placesL]

end Go.Proofs.YtcpombepajapjaaDoor
