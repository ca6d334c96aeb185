/- Package extension: best, Preferred, Stable, SemiStable. -/
import Derived.Test.YtajocnhebfpjaaaDoorExt2
namespace Go.Proofs.YtajocnhebfpjaaaDoor
open Go.ChangeShapes Go.WideShapes Go.ChangeAt Go.RowKit

theorem compR_sm (N : Int) (l : List (Int × Int)) : (compR N l).1.length ≤ 200 ∧ ∀ x ∈ (compR N l).1, x.length ≤ 100 := by
  unfold compR
  split
  · rename_i hv
    have hN : N.toNat ≤ 40 := by
      unfold valE at hv
      split at hv
      · cases hv
      · omega
    split
    · exact ⟨by simp, fun x hx => by cases hx⟩
    · exact ⟨by simp only; omega, fun x hx => by have := comp_len hx; omega⟩
  · exact ⟨by simp, fun x hx => by cases hx⟩
/-- the call returns lists (their capacity is enough) and an error -/
def RetLC (r : List (List Int) × Int) (w : World) : Ending → World → Prop := fun e w' => ∃ A c, e = .returned (.tuple #[.slice A r.1.length c, .int .i64 r.2]) ∧ RSo w' A r.1 ∧ (A = none → r.1 = [] ∧ c = 0) ∧ r.1.length ≤ c ∧ Below w.heap.size w w'
theorem RetLC.le {r : List (List Int) × Int} {w w' : World} {e : Ending} (h : RetLC r w e w') : RetLE r w e w' := by
  obtain ⟨A, c, h1, h2, h3, _, h4⟩ := h
  exact ⟨A, c, h1, h2, h3, h4⟩
theorem OwnS.capX {w : World} {b : Nat} {A : Option Addr} {n c : Nat} {xs : List Value} (h : OwnS w b (.slice A n c) xs) : n ≤ c := by
  obtain ⟨_, h2⟩ := h
  rcases h2 with ⟨e, _⟩ | ⟨g, cap, cur, e, _, _, hc, _⟩
  · injection e with _ e1 e2; omega
  · injection e with _ e1 e2; omega
/-- those that none of the list puts out -/
def keptL (p : List Int → List Int → Bool) (L : List (List Int)) : List (List Int) := L.filter fun x => !(L.any fun z => p z x)
/-- what best answers -/
def bestR (p : List Int → List Int → Bool) (N : Int) (l : List (Int × Int)) : List (List Int) × Int := if (compR N l).2 = 0 then (keptL p (compR N l).1, 0) else ([], (compR N l).2)
theorem filter_stepX {α : Type} (p : α → Bool) (L : List α) {k : Nat} (h : k < L.length) : (L.take (k + 1)).filter p = (L.take k).filter p ++ if p L[k] then [L[k]] else [] := by
  rw [List.take_succ_eq_append_getElem h, List.filter_append]
  congr 1
  rw [List.filter_cons, List.filter_nil]

set_option maxRecDepth 100000 in
set_option maxHeartbeats 4000000 in
theorem best_any (fn : FuncId) (p : List Int → List Int → Bool) (hcf : ∀ a b w, (callFunc fn #[a, b]).run Tryd.prog w = .ok (.enter fn #[a, b]) w)
    (hj : ∀ A B x y ca cb w, RI w A x → RI w B y → x.length ≤ 1000 → y.length ≤ 1000 → Calls Tryd.prog fn #[.slice A x.length ca, .slice B y.length cb] w (RetB (.bool (p x y)) w))
    (A : Option Addr) (N : Int) (l : List (Int × Int)) (c : Nat) (w : World) (hr : RP w A l) (hlen : l.length ≤ 100000) (hT : Tab w) :
    Calls Tryd.prog 72 #[.agg #[.int .i64 N, .slice A l.length c], .func (.func fn) #[] #[]] w (RetLC (bestR p N l) w) := by
  have hmf : ∀ fn first cap w, (Instr.makeFunc fn first cap).run Tryd.prog w = .ok (.func fn first cap) w := fun _ _ _ _ => rfl
  have Hj := Lib.hid hj; have Hcf := Lib.hid hcf
  clear hj hcf
  go_enter Tryd.func72, Tryd.ntmps72
  go_upto_region 1 with fail
  obtain ⟨W0, hW, d0, d1, f0, hb0⟩ : ∃ W0, (w.alloc (.cells #[.int .i64 N, .slice A l.length c] 24)).alloc (.cells #[.func (.func fn) #[] #[]] 40) = W0 ∧ W0.cell? ⟨w.heap.size, 0, none⟩ = some (.int .i64 N) ∧ W0.cell? ⟨w.heap.size, 1, none⟩ = some (.slice A l.length c) ∧ W0.cell? ⟨w.heap.size + 1, 0, none⟩ = some (.func (.func fn) #[] #[]) ∧ Below w.heap.size w W0 := by
    obtain ⟨W9, hW9, d0, d1, hb9, hlt9⟩ := boxed w 24 (.int .i64 N) (.slice A l.length c)
    have hs9 : W9.heap.size = w.heap.size + 1 := by rw [← hW9]; simp
    obtain ⟨W8, hW8, f0, hb8⟩ := boxed1 W9 40 (.func (.func fn) #[] #[])
    rw [hs9] at f0
    exact ⟨W8, by rw [hW9]; exact hW8, (hb8.cell (lt_of_cell d0)).trans d0, (hb8.cell (lt_of_cell d1)).trans d1, f0, endB hb9 hb8⟩
  rw [hW]
  clear hW
  obtain ⟨C, hC⟩ : ∃ C, compR N l = C := ⟨_, rfl⟩
  have hcc := complete_any A N l c W0 (hr.below hb0) hlen (hT.below hb0)
  obtain ⟨hs1, hs2⟩ := compR_sm N l
  have hbest : bestR p N l = if C.2 = 0 then (keptL p C.1, 0) else ([], C.2) := by unfold bestR; rw [hC]
  rw [hC] at hcc hs1 hs2
  have Hcc := Lib.hid hcc; have Hbest := Lib.hid hbest; have Hs2 := Lib.hid hs2
  clear hcc hbest hs2 hC
  obtain ⟨L, x⟩ := C
  have hs1' : L.length ≤ 200 := hs1
  clear hs1
  go_wp2_with fail
  refine Hcc.out.mono ?_
  rintro e W5 ⟨A5, c5, rfl, hr5, hn5, hb5⟩
  have hB5 := endB hb0 hb5
  have hr5' : RSo W5 A5 L := hr5
  have f5 := (hb5.cell (lt_of_cell f0)).trans f0
  have Hr5 := Lib.hid hr5'
  clear Hcc hr5 hr5' hn5 d0 d1 f0
  by_cases hx0 : x = 0
  case neg =>
    have hxb : (x == 0) = false := beq_eq_false_iff_ne.2 hx0
    have hres : bestR p N l = ([], x) := by rw [Hbest.out]; exact if_neg hx0
    have Hres := Lib.hid hres
    clear hres
    go_wp2_with fail
    go_ret2
    rw [Hres.out]
    exact ⟨none, 0, rfl, RSo.nil _ _, fun _ => ⟨rfl, rfl⟩, Nat.le_refl _, hB5⟩
  case pos =>
  subst hx0
  have hres : bestR p N l = (keptL p L, 0) := by rw [Hbest.out]; exact if_pos rfl
  have Hres := Lib.hid hres
  clear hres Hbest
  go_wp2_with fail
  go_loopw [8, 21] (fun v i wr => ∃ (k : Nat) (xs : List Value), k ≤ L.length ∧ i = .int .i64 k ∧ OwnS wr W5.heap.size v xs ∧ OwnL W5 0 xs ((L.take k).filter fun x => !(L.any fun z => p z x)) ∧ Below W5.heap.size W5 wr) (fun _ i _ => L.length - (intOf i).toNat)
  case atStart => exact ⟨0, [], Nat.zero_le _, rfl, OwnS.nil _ _, OwnL.nil _ _, Below.refl _ _⟩
  case round =>
    obtain ⟨k, xs, hk, rfl, hown, hol, hbl⟩ := hrel
    have Hol := Lib.hid hol
    clear hol
    by_cases hlt : k < L.length
    case neg =>
      have hol := Hol.out
      rw [List.take_of_length_le (by omega)] at hol
      obtain ⟨A6, c6, rfl, hr6, hn6⟩ := OwnS.forms2 hown (hol.below hbl)
      have hca := hown.capX
      have hkp : (L.filter fun x => !(L.any fun z => p z x)) = keptL p L := rfl
      rw [hkp] at hr6 hn6 hca
      rw [hkp]
      obtain ⟨K, hK⟩ : ∃ K, keptL p L = K := ⟨_, rfl⟩
      rw [hK] at hr6 hn6 hca
      rw [hK]
      have HK := Lib.hid hK; have Hr6 := Lib.hid hr6; have Hn6 := Lib.hid hn6; have Hca := Lib.hid hca
      clear hol hkp hK hr6 hn6 hca hown
      go_wp2_with fail
      go_ret2
      rw [Hres.out, HK.out]
      exact ⟨A6, c6, rfl, Hr6.out, Hn6.out, Hca.out, endB hB5 hbl⟩
    case pos =>
    have hlt' : (k : Int) < (L.length : Int) := by omega
    obtain ⟨b, o, AX, cx, hA, hcell5, hox, hri5⟩ := Hr5.out k hlt
    subst hA
    have hcell := (hbl.cell (lt_of_cell hcell5)).trans hcell5
    have hlx := Hs2.out _ (List.getElem_mem hlt)
    have hst := filter_stepX (fun x => !(L.any fun z => p z x)) L hlt
    obtain ⟨y, hy⟩ : ∃ y, L[k] = y := ⟨_, rfl⟩
    rw [hy] at hcell hox hri5 hlx hst
    have hly : y.length ≤ 100 := hlx
    have hxs : xs.length ≤ 1000000 := by
      have h1 := Hol.out.1
      have h2 := List.length_filter_le (fun x => !(L.any fun z => p z x)) (L.take k)
      have h3 := List.length_take_le' k L
      omega
    have Hst := Lib.hid hst; have Hxs := Lib.hid hxs; have Hown := Lib.hid hown; have Hox := Lib.hid hox
    obtain ⟨W6, hW6, j0, hb6⟩ := boxed1 wr 25 (.slice AX y.length cx)
    have hbl6 := endB hbl hb6
    have hcon := conBest_any fn p Hcf.out Hj.out (w.heap.size + 1) wr.heap.size (some ⟨b, o, none⟩) AX L y c5 cx W6 (Hr5.out.below hbl6) (hri5.below hbl6) (by omega) (fun z hz => by have := Hs2.out z hz; omega) (by omega) ((hbl6.cell (lt_of_cell f5)).trans f5) j0
    have Hcon := Lib.hid hcon
    clear hst hxs hown hox hcon hy hcell5 hlx
    go_wp2_with fail
    refine Hcon.out.mono ?_
    rintro e W7 ⟨rfl, hb7⟩
    have hbl7 := endB hbl6 hb7
    have j7 := (hb7.cell (lt_of_cell j0)).trans j0
    have hown7 : OwnS W7 W5.heap.size _ xs := ownsRow_below Hown.out (endB hb6 hb7)
    have Hown7 := Lib.hid hown7
    clear hown7
    cases hq : (L.any fun z => p z y)
    · have Hq := Lib.hid hq; clear hq
      go_wp2_with (at_builtin; refine wpList_appS (by rfl) (.tmp 29) (.tmp 31) (by rfl) W7 W5.heap.size _ xs AX y.length cx Hown7.out (by rfl) (by rfl) Hxs.out hbl7.size ?_; intro v' w3 hown' hb3 hg3)
      go_roundw
      case rel => exact ⟨k + 1, _, by omega, by go_num, hown', by rw [Hst.out, Hq.out]; exact Hol.out.snoc Hox.out, hbl7.trans hb3⟩
      case measure => simp [intOf]; omega
    · have Hq := Lib.hid hq; clear hq
      go_wp2_with fail
      go_roundw
      case rel => exact ⟨k + 1, xs, by omega, by go_num, Hown7.out, by rw [Hst.out, Hq.out]; simpa using Hol.out, hbl7⟩
      case measure => simp [intOf]; omega

set_option maxRecDepth 100000 in
set_option maxHeartbeats 1000000 in
theorem xPreferred_any (A : Option Addr) (N : Int) (l : List (Int × Int)) (c : Nat) (w : World) (hr : RP w A l) (hlen : l.length ≤ 100000) (hT : Tab w) :
    Calls Tryd.prog 37 #[.agg #[.int .i64 N, .slice A l.length c]] w (RetLC (bestR prefP N l) w) := by
  go_enter Tryd.func37, Tryd.ntmps37
  go_upto_region 1 with fail
  obtain ⟨W0, hW, d0, d1, hb0, hlt0⟩ := boxed w 24 (.int .i64 N) (.slice A l.length c)
  rw [hW]
  clear hW
  have H := best_any 73 prefP (fun _ _ _ => rfl) (fun A B x y ca cb w hx hy hlx hly => xpref_any A B x y ca cb w hx hy hlx hly) A N l c W0 (hr.below hb0) hlen (hT.below hb0)
  obtain ⟨R, hR⟩ : ∃ R, bestR prefP N l = R := ⟨_, rfl⟩
  rw [hR] at H
  have HH := Lib.hid H; have HR := Lib.hid hR
  clear H hR
  go_wp2_with fail
  refine HH.out.mono ?_
  rintro e w1 ⟨A1, c1, rfl, hr1, hn1, hca, hb1⟩
  have Hr1 := Lib.hid hr1; have Hn1 := Lib.hid hn1; have Hca := Lib.hid hca
  clear hr1 hn1 hca
  go_wp2_with fail
  go_ret2
  rw [HR.out]
  exact ⟨A1, c1, rfl, Hr1.out, Hn1.out, Hca.out, endB hb0 hb1⟩

set_option maxRecDepth 100000 in
set_option maxHeartbeats 1000000 in
theorem xStable_any (A : Option Addr) (N : Int) (l : List (Int × Int)) (c : Nat) (w : World) (hr : RP w A l) (hlen : l.length ≤ 100000) (hT : Tab w) :
    Calls Tryd.prog 39 #[.agg #[.int .i64 N, .slice A l.length c]] w (RetLC (bestR stabP N l) w) := by
  go_enter Tryd.func39, Tryd.ntmps39
  go_upto_region 1 with fail
  obtain ⟨W0, hW, d0, d1, hb0, hlt0⟩ := boxed w 24 (.int .i64 N) (.slice A l.length c)
  rw [hW]
  clear hW
  have H := best_any 77 stabP (fun _ _ _ => rfl) (fun A B x y ca cb w hx hy hlx hly => xstab_any A B x y ca cb w hx hy hlx hly) A N l c W0 (hr.below hb0) hlen (hT.below hb0)
  obtain ⟨R, hR⟩ : ∃ R, bestR stabP N l = R := ⟨_, rfl⟩
  rw [hR] at H
  have HH := Lib.hid H; have HR := Lib.hid hR
  clear H hR
  go_wp2_with fail
  refine HH.out.mono ?_
  rintro e w1 ⟨A1, c1, rfl, hr1, hn1, hca, hb1⟩
  have Hr1 := Lib.hid hr1; have Hn1 := Lib.hid hn1; have Hca := Lib.hid hca
  clear hr1 hn1 hca
  go_wp2_with fail
  go_ret2
  rw [HR.out]
  exact ⟨A1, c1, rfl, Hr1.out, Hn1.out, Hca.out, endB hb0 hb1⟩

set_option maxRecDepth 100000 in
set_option maxHeartbeats 1000000 in
theorem xSemiStable_any (A : Option Addr) (N : Int) (l : List (Int × Int)) (c : Nat) (w : World) (hr : RP w A l) (hlen : l.length ≤ 100000) (hT : Tab w) :
    Calls Tryd.prog 41 #[.agg #[.int .i64 N, .slice A l.length c]] w (RetLC (bestR semiP N l) w) := by
  go_enter Tryd.func41, Tryd.ntmps41
  go_upto_region 1 with fail
  obtain ⟨W0, hW, d0, d1, hb0, hlt0⟩ := boxed w 24 (.int .i64 N) (.slice A l.length c)
  rw [hW]
  clear hW
  have H := best_any 79 semiP (fun _ _ _ => rfl) (fun A B x y ca cb w hx hy hlx hly => xsemi_any A B x y ca cb w hx hy hlx hly) A N l c W0 (hr.below hb0) hlen (hT.below hb0)
  obtain ⟨R, hR⟩ : ∃ R, bestR semiP N l = R := ⟨_, rfl⟩
  rw [hR] at H
  have HH := Lib.hid H; have HR := Lib.hid hR
  clear H hR
  go_wp2_with fail
  refine HH.out.mono ?_
  rintro e w1 ⟨A1, c1, rfl, hr1, hn1, hca, hb1⟩
  have Hr1 := Lib.hid hr1; have Hn1 := Lib.hid hn1; have Hca := Lib.hid hca
  clear hr1 hn1 hca
  go_wp2_with fail
  go_ret2
  rw [HR.out]
  exact ⟨A1, c1, rfl, Hr1.out, Hn1.out, Hca.out, endB hb0 hb1⟩
end Go.Proofs.YtajocnhebfpjaaaDoor
