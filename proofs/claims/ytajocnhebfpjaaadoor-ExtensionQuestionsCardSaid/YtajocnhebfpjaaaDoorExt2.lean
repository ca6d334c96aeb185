/- Package extension: the three judgements, and the search among all complete labellings. -/
import Derived.Test.YtajocnhebfpjaaaDoorExt1
namespace Go.Proofs.YtajocnhebfpjaaaDoor
open Go.ChangeShapes Go.WideShapes Go.ChangeAt Go.RowKit

/-- z puts x out: Preferred, Stable, SemiStable -/
def prefP (z x : List Int) : Bool := withinB (placesL x [1]) (placesL z [1])
def stabP (_z x : List Int) : Bool := decide (0 < (placesL x [3]).length)
def semiP (z x : List Int) : Bool := withinB (placesL z [3]) (placesL x [3])
theorem places1_len (l : List Int) (v : Int) : (placesL l [v]).length ≤ l.length := by have := placesL_len l [v]; simpa using this

set_option maxRecDepth 100000 in
set_option maxHeartbeats 2000000 in
theorem xpref_any (A B : Option Addr) (x y : List Int) (ca cb : Nat) (w : World) (hx : RI w A x) (hy : RI w B y) (hlx : x.length ≤ 1000) (hly : y.length ≤ 1000) :
    Calls Tryd.prog 73 #[.slice A x.length ca, .slice B y.length cb] w (RetB (.bool (prefP x y)) w) := by
  have h1 := places1_len x 1; have h2 := places1_len y 1
  go_enter Tryd.func73, Tryd.ntmps73
  go_wp2_with fail
  obtain ⟨W0, hW, hri, hb0⟩ : ∃ W0, w.alloc (.cells #[.int .i64 1] 3) = W0 ∧ RI W0 (some ⟨w.heap.size, 0, none⟩) [1] ∧ Below w.heap.size w W0 := ⟨_, rfl, new_ri1 _ _ _, newB _ _⟩
  rw [hW]
  clear hW
  refine (places_any B (some ⟨w.heap.size, 0, none⟩) y [1] cb 1 W0 (hy.below hb0) hri hly (by simp)).mono ?_
  rintro e w1 ⟨A1, c1, rfl, _, hr1, _, hb1⟩
  have hb01 := endB hb0 hb1
  obtain ⟨P1, hP1⟩ : ∃ P, placesL y [1] = P := ⟨_, rfl⟩
  rw [hP1] at hr1
  have HP1 := Lib.hid hP1; have Hr1 := Lib.hid hr1
  rw [hP1]
  clear hP1 hr1 hri
  go_wp2_with fail
  obtain ⟨W2, hW, hri, hb2⟩ : ∃ W0, w1.alloc (.cells #[.int .i64 1] 3) = W0 ∧ RI W0 (some ⟨w1.heap.size, 0, none⟩) [1] ∧ Below w1.heap.size w1 W0 := ⟨_, rfl, new_ri1 _ _ _, newB _ _⟩
  rw [hW]
  clear hW
  have hb02 := endB hb01 hb2
  refine (places_any A (some ⟨w1.heap.size, 0, none⟩) x [1] ca 1 W2 (hx.below hb02) hri hlx (by simp)).mono ?_
  rintro e w3 ⟨A2, c2, rfl, _, hr2, _, hb3⟩
  have hb03 := endB hb02 hb3
  obtain ⟨P2, hP2⟩ : ∃ P, placesL x [1] = P := ⟨_, rfl⟩
  rw [hP2] at hr2
  have hl1 : P1.length ≤ 100000 := by rw [← HP1.out]; omega
  have hl2 : P2.length ≤ 100000 := by rw [← hP2]; omega
  have hwi := within_any A1 A2 P1 P2 c1 c2 w3 (Hr1.out.below (endB hb2 hb3)) hr2 hl1 hl2
  have hres : withinB P1 P2 = prefP x y := by rw [← HP1.out, ← hP2]; rfl
  rw [hres] at hwi
  have Hwi := Lib.hid hwi
  rw [hP2]
  clear hwi hres hP2 hr2
  go_wp2_with fail
  refine Hwi.out.mono ?_
  rintro e w4 ⟨rfl, hb4⟩
  go_wp2_with fail
  go_ret
  exact ⟨rfl, endB hb03 hb4⟩
set_option maxRecDepth 100000 in
set_option maxHeartbeats 2000000 in
theorem xsemi_any (A B : Option Addr) (x y : List Int) (ca cb : Nat) (w : World) (hx : RI w A x) (hy : RI w B y) (hlx : x.length ≤ 1000) (hly : y.length ≤ 1000) :
    Calls Tryd.prog 79 #[.slice A x.length ca, .slice B y.length cb] w (RetB (.bool (semiP x y)) w) := by
  have h1 := places1_len x 3; have h2 := places1_len y 3
  go_enter Tryd.func79, Tryd.ntmps79
  go_wp2_with fail
  obtain ⟨W0, hW, hri, hb0⟩ : ∃ W0, w.alloc (.cells #[.int .i64 3] 3) = W0 ∧ RI W0 (some ⟨w.heap.size, 0, none⟩) [3] ∧ Below w.heap.size w W0 := ⟨_, rfl, new_ri1 _ _ _, newB _ _⟩
  rw [hW]
  clear hW
  refine (places_any A (some ⟨w.heap.size, 0, none⟩) x [3] ca 1 W0 (hx.below hb0) hri hlx (by simp)).mono ?_
  rintro e w1 ⟨A1, c1, rfl, _, hr1, _, hb1⟩
  have hb01 := endB hb0 hb1
  obtain ⟨P1, hP1⟩ : ∃ P, placesL x [3] = P := ⟨_, rfl⟩
  rw [hP1] at hr1
  have HP1 := Lib.hid hP1; have Hr1 := Lib.hid hr1
  rw [hP1]
  clear hP1 hr1 hri
  go_wp2_with fail
  obtain ⟨W2, hW, hri, hb2⟩ : ∃ W0, w1.alloc (.cells #[.int .i64 3] 3) = W0 ∧ RI W0 (some ⟨w1.heap.size, 0, none⟩) [3] ∧ Below w1.heap.size w1 W0 := ⟨_, rfl, new_ri1 _ _ _, newB _ _⟩
  rw [hW]
  clear hW
  have hb02 := endB hb01 hb2
  refine (places_any B (some ⟨w1.heap.size, 0, none⟩) y [3] cb 1 W2 (hy.below hb02) hri hly (by simp)).mono ?_
  rintro e w3 ⟨A2, c2, rfl, _, hr2, _, hb3⟩
  have hb03 := endB hb02 hb3
  obtain ⟨P2, hP2⟩ : ∃ P, placesL y [3] = P := ⟨_, rfl⟩
  rw [hP2] at hr2
  have hl1 : P1.length ≤ 100000 := by rw [← HP1.out]; omega
  have hl2 : P2.length ≤ 100000 := by rw [← hP2]; omega
  have hwi := within_any A1 A2 P1 P2 c1 c2 w3 (Hr1.out.below (endB hb2 hb3)) hr2 hl1 hl2
  have hres : withinB P1 P2 = semiP x y := by rw [← HP1.out, ← hP2]; rfl
  rw [hres] at hwi
  have Hwi := Lib.hid hwi
  rw [hP2]
  clear hwi hres hP2 hr2
  go_wp2_with fail
  refine Hwi.out.mono ?_
  rintro e w4 ⟨rfl, hb4⟩
  go_wp2_with fail
  go_ret
  exact ⟨rfl, endB hb03 hb4⟩
set_option maxRecDepth 100000 in
set_option maxHeartbeats 2000000 in
theorem xstab_any (A B : Option Addr) (x y : List Int) (ca cb : Nat) (w : World) (_hx : RI w A x) (hy : RI w B y) (_hlx : x.length ≤ 1000) (hly : y.length ≤ 1000) :
    Calls Tryd.prog 77 #[.slice A x.length ca, .slice B y.length cb] w (RetB (.bool (stabP x y)) w) := by
  have h2 := places1_len y 3
  go_enter Tryd.func77, Tryd.ntmps77
  go_wp2_with fail
  obtain ⟨W0, hW, hri, hb0⟩ : ∃ W0, w.alloc (.cells #[.int .i64 3] 3) = W0 ∧ RI W0 (some ⟨w.heap.size, 0, none⟩) [3] ∧ Below w.heap.size w W0 := ⟨_, rfl, new_ri1 _ _ _, newB _ _⟩
  rw [hW]
  clear hW
  refine (places_any B (some ⟨w.heap.size, 0, none⟩) y [3] cb 1 W0 (hy.below hb0) hri hly (by simp)).mono ?_
  rintro e w1 ⟨A1, c1, rfl, _, _, _, hb1⟩
  have hb01 := endB hb0 hb1
  obtain ⟨q, hq⟩ : ∃ q, (placesL y [3]).length = q := ⟨_, rfl⟩
  have hs : stabP x y = decide ((0 : Int) < (q : Int)) := by unfold stabP; rw [hq, decide_eq_decide]; omega
  obtain ⟨r, hr⟩ : ∃ r, stabP x y = r := ⟨_, rfl⟩
  rw [hr] at hs
  have Hs := Lib.hid hs; have Hr := Lib.hid hr
  rw [hq]
  have hq1 : q ≤ 100000 := by omega
  clear hs hq h2 hr
  by_cases h0 : 0 < q
  · have hd : decide ((0 : Int) < (q : Int)) = true := by rw [decide_eq_true_iff]; omega
    have H0 := Lib.hid h0; clear h0
    go_wp2_with fail
    go_ret
    exact ⟨rb (by rw [Hr.out, Hs.out]; simp [H0.out]), hb01⟩
  · have hd : decide ((0 : Int) < (q : Int)) = false := by rw [decide_eq_false_iff_not]; omega
    have H0 := Lib.hid h0; clear h0
    go_wp2_with fail
    go_ret
    exact ⟨rb (by rw [Hr.out, Hs.out]; simp [H0.out]), hb01⟩

set_option maxRecDepth 100000 in
set_option maxHeartbeats 2000000 in
theorem best1_any (fn : FuncId) (p : List Int → List Int → Bool) (hcf : ∀ a b w, (callFunc fn #[a, b]).run Tryd.prog w = .ok (.enter fn #[a, b]) w)
    (hj : ∀ A B x y ca cb w, RI w A x → RI w B y → x.length ≤ 1000 → y.length ≤ 1000 → Calls Tryd.prog fn #[.slice A x.length ca, .slice B y.length cb] w (RetB (.bool (p x y)) w))
    (g1 g2 : Nat) (A B : Option Addr) (x y : List Int) (ca cb : Nat) (w : World) (hx : RI w A x) (hy : RI w B y) (hlx : x.length ≤ 1000) (hly : y.length ≤ 1000)
    (c1 : w.cell? ⟨g1, 0, none⟩ = some (.func (.func fn) #[] #[])) (c2 : w.cell? ⟨g2, 0, none⟩ = some (.slice B y.length cb)) :
    Calls Tryd.prog 113 #[.slice A x.length ca, .pointer (some ⟨g1, 0, none⟩), .pointer (some ⟨g2, 0, none⟩)] w (RetB (.bool (p x y)) w) := by
  have H := Lib.hid (hj A B x y ca cb w hx hy hlx hly)
  clear hj
  go_enter Tryd.func113, Tryd.ntmps113
  go_wp2_with fail
  refine H.out.mono ?_
  rintro e w1 ⟨rfl, hb1⟩
  go_wp2_with fail
  go_ret
  exact ⟨rfl, hb1⟩

/-- an index that is at least 0 exactly if one of L passes p -/
def RetIx (b : Bool) (w : World) : Ending → World → Prop := fun e w' => ∃ i : Int, e = .returned (.int .i64 i) ∧ decide (0 ≤ i) = b ∧ Below w.heap.size w w'
theorem any_stepX {α : Type} (p : α → Bool) (L : List α) {k : Nat} (h : k < L.length) : (L.take (k + 1)).any p = ((L.take k).any p || p L[k]) := by
  rw [List.take_succ_eq_append_getElem h, List.any_append]; simp

set_option maxRecDepth 100000 in
set_option maxHeartbeats 2000000 in
theorem idxBest_any (fn : FuncId) (p : List Int → List Int → Bool) (hcf : ∀ a b w, (callFunc fn #[a, b]).run Tryd.prog w = .ok (.enter fn #[a, b]) w)
    (hj : ∀ A B x y ca cb w, RI w A x → RI w B y → x.length ≤ 1000 → y.length ≤ 1000 → Calls Tryd.prog fn #[.slice A x.length ca, .slice B y.length cb] w (RetB (.bool (p x y)) w))
    (g1 g2 : Nat) (A B : Option Addr) (L : List (List Int)) (y : List Int) (ca cb : Nat) (w : World) (hL : RSo w A L) (hy : RI w B y) (hlL : L.length ≤ 100000) (hll : ∀ x ∈ L, x.length ≤ 1000) (hly : y.length ≤ 1000)
    (c1 : w.cell? ⟨g1, 0, none⟩ = some (.func (.func fn) #[] #[])) (c2 : w.cell? ⟨g2, 0, none⟩ = some (.slice B y.length cb)) :
    Calls Tryd.prog 115 #[.slice A L.length ca, .func (.func 113) #[] #[.pointer (some ⟨g1, 0, none⟩), .pointer (some ⟨g2, 0, none⟩)]] w (RetIx (L.any fun x => p x y) w) := by
  have Hj := Lib.hid hj; have Hcf := Lib.hid hcf; have Hll := Lib.hid hll
  clear hj hcf hll
  go_enter Tryd.func115, Tryd.ntmps115
  go_wp2_with fail
  go_loopw [8] (fun i wr => ∃ k : Nat, k ≤ L.length ∧ i = .int .i64 k ∧ (L.take k).any (fun x => p x y) = false ∧ Below w.heap.size w wr) (fun i _ => L.length - (intOf i).toNat)
  case atStart => exact ⟨0, Nat.zero_le _, rfl, by simp, Below.refl _ _⟩
  case round =>
    obtain ⟨k, hk, rfl, hi, hbl⟩ := hrel
    have Hi := Lib.hid hi; clear hi
    by_cases hlt : k < L.length
    case neg =>
      have hall : (L.any fun x => p x y) = false := by have := Hi.out; rwa [List.take_of_length_le (by omega)] at this
      have Hall := Lib.hid hall
      clear hall
      go_wp2_with fail
      go_ret
      exact ⟨_, rfl, by rw [Hall.out]; rfl, hbl⟩
    case pos =>
    have hlt' : (k : Int) < (L.length : Int) := by omega
    obtain ⟨b, o, AX, cx, hA, hcell, _, hri⟩ := hL.below hbl k hlt
    subst hA
    have hstp := any_stepX (fun x => p x y) L hlt
    rw [Hi.out, Bool.false_or] at hstp
    have hlx := Hll.out _ (List.getElem_mem hlt)
    have hany : p L[k] y = true → (L.any fun x => p x y) = true := fun h => List.any_eq_true.2 ⟨_, List.getElem_mem hlt, h⟩
    obtain ⟨x, hx⟩ : ∃ x, L[k] = x := ⟨_, rfl⟩
    rw [hx] at hcell hri hlx hany hstp
    have Hstp := Lib.hid hstp; have Hany := Lib.hid hany
    have hb := best1_any fn p Hcf.out Hj.out g1 g2 AX B x y cx cb wr hri (hy.below hbl) hlx hly ((hbl.cell (lt_of_cell c1)).trans c1) ((hbl.cell (lt_of_cell c2)).trans c2)
    have Hb := Lib.hid hb
    clear hstp hany hx hb
    go_wp2_with fail
    refine Hb.out.mono ?_
    rintro e w1 ⟨rfl, hb1⟩
    cases hp : p x y
    · have Hp := Lib.hid hp; clear hp
      go_wp2_with fail
      go_roundw
      case rel => exact ⟨k + 1, by omega, by go_num, by rw [Hstp.out]; exact Hp.out, endB hbl hb1⟩
      case measure => simp [intOf]; omega
    · have Hp := Lib.hid (Hany.out hp); clear hp
      go_wp2_with fail
      go_ret
      exact ⟨_, rfl, by rw [Hp.out]; simp, endB hbl hb1⟩
set_option maxRecDepth 100000 in
set_option maxHeartbeats 2000000 in
theorem conBest_any (fn : FuncId) (p : List Int → List Int → Bool) (hcf : ∀ a b w, (callFunc fn #[a, b]).run Tryd.prog w = .ok (.enter fn #[a, b]) w)
    (hj : ∀ A B x y ca cb w, RI w A x → RI w B y → x.length ≤ 1000 → y.length ≤ 1000 → Calls Tryd.prog fn #[.slice A x.length ca, .slice B y.length cb] w (RetB (.bool (p x y)) w))
    (g1 g2 : Nat) (A B : Option Addr) (L : List (List Int)) (y : List Int) (ca cb : Nat) (w : World) (hL : RSo w A L) (hy : RI w B y) (hlL : L.length ≤ 100000) (hll : ∀ x ∈ L, x.length ≤ 1000) (hly : y.length ≤ 1000)
    (c1 : w.cell? ⟨g1, 0, none⟩ = some (.func (.func fn) #[] #[])) (c2 : w.cell? ⟨g2, 0, none⟩ = some (.slice B y.length cb)) :
    Calls Tryd.prog 81 #[.slice A L.length ca, .func (.func 113) #[] #[.pointer (some ⟨g1, 0, none⟩), .pointer (some ⟨g2, 0, none⟩)]] w (RetB (.bool (L.any fun x => p x y)) w) := by
  have H := Lib.hid (idxBest_any fn p hcf hj g1 g2 A B L y ca cb w hL hy hlL hll hly c1 c2)
  clear hcf hj
  go_enter Tryd.func81, Tryd.ntmps81
  go_wp2_with fail
  refine H.out.mono ?_
  rintro e w1 ⟨i, rfl, hi, hb⟩
  have Hi := Lib.hid hi
  clear hi
  obtain ⟨r, hr⟩ : ∃ r, decide (0 ≤ i) = r := ⟨_, rfl⟩
  cases r
  all_goals
    have Hr := Lib.hid hr
    go_wp2_with fail
    go_ret
    exact ⟨rb (by rw [← Hi.out, Hr.out]), hb⟩
end Go.Proofs.YtajocnhebfpjaaaDoor
