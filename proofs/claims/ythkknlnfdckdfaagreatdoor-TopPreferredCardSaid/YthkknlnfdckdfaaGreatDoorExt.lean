import Derived.Test.YthkknlnfdckdfaaGreatDoorLb
import Derived.Test.YthkknlnfdckdfaaGreatDoorInsW
/- Package extension: in, places, within. -/
namespace Go.Proofs.YthkknlnfdckdfaaGreatDoor
open Go.ChangeShapes Go.WideShapes Go.ChangeAt Go.RowKit

theorem boxed1 (w : World) (t : TypeId) (x : Value) : ∃ W0, w.alloc (.cells #[x] t) = W0 ∧ W0.cell? ⟨w.heap.size, 0, none⟩ = some x ∧ Below w.heap.size w W0 :=
  ⟨_, rfl, by rw [(Blk.new w t #[x]).cell]; rfl, (Below.refl _ _).alloc (Nat.le_refl _) _⟩
/-- label 1 stands at place i -/
def atB (x : List Int) (i : Int) : Bool := decide (0 ≤ i) && decide (i < x.length) && (x.getD i.toNat 0 == 1)
/-- x has fewer members than y, and y has them all -/
def withinB (x y : List Int) : Bool := decide (x.length < y.length) && insideB x y
/-- the places of the labels in vs, label by label -/
def placesL (l vs : List Int) : List Int := vs.flatMap fun v => withL l v

set_option maxHeartbeats 1000000 in
theorem xIn_any (A : Option Addr) (x : List Int) (c : Nat) (i : Int) (w : World) (hr : RI w A x) (_hl : x.length ≤ 100000) :
    Calls Tryz.prog 32 #[.slice A x.length c, .int .i64 i] w (Ret (.bool (atB x i)) w) := by
  by_cases h0 : 0 ≤ i
  case neg =>
    have hd : decide (0 ≤ i) = false := by rw [decide_eq_false_iff_not]; exact h0
    have hz : atB x i = false := by unfold atB; rw [hd]; rfl
    have Hz := Lib.hid hz; clear hz
    go_enter Tryz.func32, Tryz.ntmps32
    go_wp2_with fail
    go_ret
    exact ⟨rb (by rw [Hz.out]), rfl⟩
  case pos =>
  by_cases h1 : i < (x.length : Int)
  case neg =>
    have hd : decide (i < (x.length : Int)) = false := by rw [decide_eq_false_iff_not]; exact h1
    have hz : atB x i = false := by unfold atB; rw [hd, Bool.and_false]; rfl
    have Hz := Lib.hid hz; clear hz
    go_enter Tryz.func32, Tryz.ntmps32
    go_wp2_with fail
    go_ret
    exact ⟨rb (by rw [Hz.out]), rfl⟩
  case pos =>
  obtain ⟨k, rfl⟩ := Int.eq_ofNat_of_zero_le h0
  have hk : k < x.length := by omega
  have hz : atB x (k : Int) = (x[k] == 1) := by
    unfold atB
    rw [decide_eq_true h0, decide_eq_true h1, Int.toNat_natCast]
    simp [List.getD, hk]
  obtain ⟨b, o, rfl, hc⟩ := hr.at_ hk
  obtain ⟨y, hy⟩ : ∃ y, x[k] = y := ⟨_, rfl⟩
  rw [hy] at hc hz
  have Hz := Lib.hid hz; clear hz hy
  go_enter Tryz.func32, Tryz.ntmps32
  go_wp2_with fail
  go_ret
  exact ⟨rb (by rw [Hz.out]), rfl⟩

set_option maxHeartbeats 1000000 in
theorem within1_any (g : Nat) (B : Option Addr) (y : List Int) (c : Nat) (v : Int) (w : World) (hc : w.cell? ⟨g, 0, none⟩ = some (.slice B y.length c)) (hr : RI w B y) (hl : y.length ≤ 100000) :
    Calls Tryz.prog 38 #[.int .i64 v, .pointer (some ⟨g, 0, none⟩)] w (Ret (.bool (!inB y v)) w) := by
  go_enter Tryz.func38, Tryz.ntmps38
  go_wp2_with fail
  refine (containsI_any B y c v w hr hl).mono ?_
  rintro e w1 ⟨rfl, rfl⟩
  go_wp2_with fail
  go_ret
  exact ⟨rfl, rfl⟩

set_option maxHeartbeats 1000000 in
theorem idxWithin_any (g : Nat) (B : Option Addr) (y : List Int) (cy : Nat) (A : Option Addr) (l : List Int) (c : Nat) (w : World) (hr : RI w A l) (hl : l.length ≤ 100000)
    (hc : w.cell? ⟨g, 0, none⟩ = some (.slice B y.length cy)) (hry : RI w B y) (hly : y.length ≤ 100000) :
    Calls Tryz.prog 63 #[.slice A l.length c, .func (.func 38) #[] #[.pointer (some ⟨g, 0, none⟩)]] w (Ret (.int .i64 (idxP (fun v => !inB y v) 0 l)) w) := by
  go_enter Tryz.func63, Tryz.ntmps63
  go_wp2_with fail
  go_loop [8] (fun i => ∃ k : Nat, k ≤ l.length ∧ i = .int .i64 k ∧ idxP (fun v => !inB y v) k (l.drop k) = idxP (fun v => !inB y v) 0 l) (fun i => l.length - (intOf i).toNat)
  case atStart => exact ⟨0, Nat.zero_le _, rfl, rfl⟩
  case round =>
    obtain ⟨k, hk, rfl, hi⟩ := hrel
    have Hi := Lib.hid hi; clear hi
    by_cases hlt : k < l.length
    case neg =>
      go_wp2_with fail
      go_ret
      exact ⟨ri (by rw [← Hi.out, idxP_end hlt]), rfl⟩
    case pos =>
    obtain ⟨b, o, rfl, hce⟩ := hr.at_ hlt
    have H := Lib.hid (within1_any g B y cy l[k] w hc hry hly)
    go_wp2_with fail
    refine H.out.mono ?_
    rintro e w1 ⟨rfl, rfl⟩
    cases hb : (!inB y l[k])
    · have Hb := Lib.hid hb; clear hb
      go_wp2_with fail
      go_round
      case rel => exact ⟨k + 1, by omega, by go_num, by rw [← idxP_miss hlt Hb.out]; exact Hi.out⟩
      case measure => simp [intOf]; omega
    · have Hb := Lib.hid hb; clear hb
      go_wp2_with fail
      go_ret
      exact ⟨ri (by rw [← Hi.out, idxP_hit hlt Hb.out]), rfl⟩
set_option maxHeartbeats 400000 in
theorem conWithin_any (g : Nat) (B : Option Addr) (y : List Int) (cy : Nat) (A : Option Addr) (l : List Int) (c : Nat) (w : World) (hr : RI w A l) (hl : l.length ≤ 100000)
    (hc : w.cell? ⟨g, 0, none⟩ = some (.slice B y.length cy)) (hry : RI w B y) (hly : y.length ≤ 100000) :
    Calls Tryz.prog 37 #[.slice A l.length c, .func (.func 38) #[] #[.pointer (some ⟨g, 0, none⟩)]] w (Ret (.bool (!insideB l y)) w) := by
  have h : decide (0 ≤ idxP (fun v => !inB y v) 0 l) = !insideB l y := by
    rw [idxP_any]; unfold insideB; rw [List.not_all_eq_any_not]
  have H := Lib.hid h; clear h
  have HI := idxWithin_any g B y cy A l c w hr hl hc hry hly
  go_enter Tryz.func37, Tryz.ntmps37
  go_wp2_with fail
  refine HI.mono ?_
  clear HI
  rintro e w1 ⟨rfl, rfl⟩
  go_wp2_with fail
  go_ret
  exact ⟨rb H.out, rfl⟩
set_option maxHeartbeats 1000000 in
theorem within_any (A B : Option Addr) (x y : List Int) (cx cy : Nat) (w : World) (hx : RI w A x) (hy : RI w B y) (hlx : x.length ≤ 100000) (hly : y.length ≤ 100000) :
    Calls Tryz.prog 14 #[.slice A x.length cx, .slice B y.length cy] w (RetB (.bool (withinB x y)) w) := by
  have hmf : ∀ fn first cap w, (Instr.makeFunc fn first cap).run Tryz.prog w = .ok (.func fn first cap) w := fun _ _ _ _ => rfl
  by_cases hlt : x.length < y.length
  case neg =>
    have hd : decide ((x.length : Int) < (y.length : Int)) = false := by rw [decide_eq_false_iff_not]; omega
    have hz : withinB x y = false := by unfold withinB; rw [decide_eq_false hlt]; rfl
    have Hz := Lib.hid hz
    clear hz
    go_enter Tryz.func14, Tryz.ntmps14
    go_upto_region 1 with fail
    obtain ⟨W0, hW, c0, hb0⟩ := boxed1 w 22 (.slice B y.length cy)
    rw [hW]
    clear hW
    go_wp2_with fail
    go_ret
    exact ⟨rb (by rw [Hz.out]), hb0⟩
  case pos =>
    have hlt' : (x.length : Int) < (y.length : Int) := by omega
    have hd : decide ((x.length : Int) < (y.length : Int)) = true := decide_eq_true hlt'
    have hz : withinB x y = insideB x y := by unfold withinB; rw [decide_eq_true hlt]; rfl
    have Hz := Lib.hid hz
    clear hz
    go_enter Tryz.func14, Tryz.ntmps14
    go_upto_region 1 with fail
    obtain ⟨W0, hW, c0, hb0⟩ := boxed1 w 22 (.slice B y.length cy)
    rw [hW]
    clear hW
    have hcw := conWithin_any w.heap.size B y cy A x cx W0 (hx.below hb0) hlx c0 (hy.below hb0) hly
    have Hcw := Lib.hid hcw
    clear hcw
    go_wp2_with fail
    refine Hcw.out.mono ?_
    rintro e w1 ⟨rfl, rfl⟩
    go_wp2_with fail
    go_ret
    exact ⟨rb (by rw [Hz.out]), hb0⟩

theorem own_noneI {w : World} {b : Nat} {A : Option Addr} {l : List Int} {c : Nat} (h : OwnI w b (.slice A l.length c) l) : A = none → l = [] ∧ c = 0 := fun e => by
  subst e
  obtain ⟨A9, c9, e9, _, h9⟩ := h.form2
  injection e9 with e1 e2 e3
  subst e1 e3
  exact h9 rfl
theorem placesL_snoc (l vs : List Int) (v : Int) : placesL l (vs ++ [v]) = placesL l vs ++ withL l v := by unfold placesL; rw [List.flatMap_append]; simp
theorem placesL_len (l vs : List Int) : (placesL l vs).length ≤ vs.length * l.length := by
  refine snoc_ind (P := fun vs => (placesL l vs).length ≤ vs.length * l.length) (by simp [placesL]) ?_ vs
  intro vs v ih
  rw [placesL_snoc, List.length_append, List.length_append, List.length_singleton, Nat.add_mul, Nat.one_mul]
  have : (withL l v).length ≤ l.length := nodesB_length _ _
  omega

set_option maxRecDepth 100000 in
set_option maxHeartbeats 2000000 in
theorem places_any (A B : Option Addr) (l vs : List Int) (ca cb : Nat) (w : World) (hr : RI w A l) (hv : RI w B vs) (hl : l.length ≤ 1000) (hvl : vs.length ≤ 100) :
    Calls Tryz.prog 15 #[.slice A l.length ca, .slice B vs.length cb] w (RetI (placesL l vs) w) := by
  go_enter Tryz.func15, Tryz.ntmps15
  go_wp2_with fail
  go_loopw [5, 10] (fun u i wr => ∃ k : Nat, k ≤ vs.length ∧ i = .int .i64 k ∧ OwnI wr w.heap.size u (placesL l (vs.take k)) ∧ Below w.heap.size w wr) (fun _ i _ => vs.length - (intOf i).toNat)
  case atStart => exact ⟨0, Nat.zero_le _, rfl, OwnI.nil _ _, Below.refl _ _⟩
  case round =>
    obtain ⟨k, hk, rfl, hown, hbl⟩ := hrel
    by_cases hlt : k < vs.length
    case neg =>
      have hfull : vs.take k = vs := List.take_of_length_le (by omega)
      rw [hfull] at hown
      have Hown := Lib.hid hown
      clear hown hfull
      go_wp2_with fail
      go_ret
      exact RetI.mk Hown.out hbl
    case pos =>
    have hlt' : (k : Int) < (vs.length : Int) := by omega
    obtain ⟨b, o, rfl, hc⟩ := (hv.below hbl).at_ hlt
    have hst : placesL l (vs.take (k + 1)) = placesL l (vs.take k) ++ withL l vs[k] := by rw [List.take_succ_eq_append_getElem hlt, placesL_snoc]
    obtain ⟨y, hy⟩ : ∃ y, vs[k] = y := ⟨_, rfl⟩
    rw [hy] at hc hst
    have hl1 : (placesL l (vs.take k)).length + (withL l y).length ≤ 1000000 := by
      have h1 := placesL_len l (vs.take k)
      have h2 : (withL l y).length ≤ l.length := nodesB_length _ _
      have h3 := List.length_take_le' k vs
      have h4 : (vs.take k).length * l.length ≤ 100 * 1000 := Nat.mul_le_mul (by omega) hl
      omega
    have Hst := Lib.hid hst; have Hl1 := Lib.hid hl1; have Hown := Lib.hid hown
    have hcw := with_any A l ca y wr (hr.below hbl) (by omega)
    have Hcw := Lib.hid hcw
    clear hst hl1 hy hown hcw
    go_wp2_with fail
    refine Hcw.out.mono ?_
    rintro e w1 ⟨A1, c1, rfl, ho1, hri1, _, hb1⟩
    have hn1 := own_noneI ho1
    have hbl1 := endB hbl hb1
    have hown1 : OwnI w1 w.heap.size _ _ := ownsRow_below Hown.out hb1
    have Hown1 := Lib.hid hown1
    have Hn1 := Lib.hid hn1
    clear hown1 hn1 ho1
    go_wp2_with (at_builtin; refine wpList_appIs (by rfl) (.tmp 14) (.tmp 17) (by rfl) w1 w.heap.size _ _ A1 (withL l y) c1 Hown1.out hri1 Hn1.out (by rfl) (by rfl) Hl1.out hbl1.size ?_; intro v' w2 hown2 hb2 hg2)
    go_roundw
    case rel => exact ⟨k + 1, by omega, by go_num, by rw [Hst.out]; exact hown2, hbl1.trans hb2⟩
    case measure => simp [intOf]; omega

/-- the judgements of Preferred, Stable and SemiStable: y puts x out -/
def prefB (x y : List Int) : Bool := withinB (placesL y [1]) (placesL x [1])
end Go.Proofs.YthkknlnfdckdfaaGreatDoor

/- Package extension: the three judgements, and the search among all complete labellings. -/
namespace Go.Proofs.YthkknlnfdckdfaaGreatDoor
open Go.ChangeShapes Go.WideShapes Go.ChangeAt Go.RowKit

/-- z puts x out: Preferred, Stable, SemiStable -/
def prefP (z x : List Int) : Bool := withinB (placesL x [1]) (placesL z [1])
def stabP (_z x : List Int) : Bool := decide (0 < (placesL x [3]).length)
def semiP (z x : List Int) : Bool := withinB (placesL z [3]) (placesL x [3])
theorem places1_len (l : List Int) (v : Int) : (placesL l [v]).length ≤ l.length := by have := placesL_len l [v]; simpa using this

set_option maxRecDepth 100000 in
set_option maxHeartbeats 2000000 in
theorem xpref_any (A B : Option Addr) (x y : List Int) (ca cb : Nat) (w : World) (hx : RI w A x) (hy : RI w B y) (hlx : x.length ≤ 1000) (hly : y.length ≤ 1000) :
    Calls Tryz.prog 13 #[.slice A x.length ca, .slice B y.length cb] w (RetB (.bool (prefP x y)) w) := by
  have h1 := places1_len x 1; have h2 := places1_len y 1
  go_enter Tryz.func13, Tryz.ntmps13
  go_wp2_with fail
  obtain ⟨W0, hW, hri, hb0⟩ : ∃ W0, w.alloc (.cells #[.int .i64 1] 3) = W0 ∧ RI W0 (some ⟨w.heap.size, 0, none⟩) [1] ∧ Below w.heap.size w W0 := ⟨_, rfl, new_ri1 _ _ _, newB _ _⟩
  rw [hW]
  clear hW
  refine (places_any B (some ⟨w.heap.size, 0, none⟩) y [1] cb 1 W0 (hy.below hb0) hri hly (by simp)).mono ?_
  rintro e w1 ⟨A1, c1, rfl, _, hr1, _, hb1⟩
  have hb01 := endB hb0 hb1
  obtain ⟨P1, hP1⟩ : ∃ P, placesL y [1] = P := ⟨_, rfl⟩
  rw [hP1] at hr1
  have HP1 := Lib.hid hP1; have Hr1 := Lib.hid hr1
  rw [hP1]
  clear hP1 hr1 hri
  go_wp2_with fail
  obtain ⟨W2, hW, hri, hb2⟩ : ∃ W0, w1.alloc (.cells #[.int .i64 1] 3) = W0 ∧ RI W0 (some ⟨w1.heap.size, 0, none⟩) [1] ∧ Below w1.heap.size w1 W0 := ⟨_, rfl, new_ri1 _ _ _, newB _ _⟩
  rw [hW]
  clear hW
  have hb02 := endB hb01 hb2
  refine (places_any A (some ⟨w1.heap.size, 0, none⟩) x [1] ca 1 W2 (hx.below hb02) hri hlx (by simp)).mono ?_
  rintro e w3 ⟨A2, c2, rfl, _, hr2, _, hb3⟩
  have hb03 := endB hb02 hb3
  obtain ⟨P2, hP2⟩ : ∃ P, placesL x [1] = P := ⟨_, rfl⟩
  rw [hP2] at hr2
  have hl1 : P1.length ≤ 100000 := by rw [← HP1.out]; omega
  have hl2 : P2.length ≤ 100000 := by rw [← hP2]; omega
  have hwi := within_any A1 A2 P1 P2 c1 c2 w3 (Hr1.out.below (endB hb2 hb3)) hr2 hl1 hl2
  have hres : withinB P1 P2 = prefP x y := by rw [← HP1.out, ← hP2]; rfl
  rw [hres] at hwi
  have Hwi := Lib.hid hwi
  rw [hP2]
  clear hwi hres hP2 hr2
  go_wp2_with fail
  refine Hwi.out.mono ?_
  rintro e w4 ⟨rfl, hb4⟩
  go_wp2_with fail
  go_ret
  exact ⟨rfl, endB hb03 hb4⟩
set_option maxRecDepth 100000 in
set_option maxHeartbeats 2000000 in
theorem best1_any (fn : FuncId) (p : List Int → List Int → Bool) (hcf : ∀ a b w, (callFunc fn #[a, b]).run Tryz.prog w = .ok (.enter fn #[a, b]) w)
    (hj : ∀ A B x y ca cb w, RI w A x → RI w B y → x.length ≤ 1000 → y.length ≤ 1000 → Calls Tryz.prog fn #[.slice A x.length ca, .slice B y.length cb] w (RetB (.bool (p x y)) w))
    (g1 g2 : Nat) (A B : Option Addr) (x y : List Int) (ca cb : Nat) (w : World) (hx : RI w A x) (hy : RI w B y) (hlx : x.length ≤ 1000) (hly : y.length ≤ 1000)
    (c1 : w.cell? ⟨g1, 0, none⟩ = some (.func (.func fn) #[] #[])) (c2 : w.cell? ⟨g2, 0, none⟩ = some (.slice B y.length cb)) :
    Calls Tryz.prog 36 #[.slice A x.length ca, .pointer (some ⟨g1, 0, none⟩), .pointer (some ⟨g2, 0, none⟩)] w (RetB (.bool (p x y)) w) := by
  have H := Lib.hid (hj A B x y ca cb w hx hy hlx hly)
  clear hj
  go_enter Tryz.func36, Tryz.ntmps36
  go_wp2_with fail
  refine H.out.mono ?_
  rintro e w1 ⟨rfl, hb1⟩
  go_wp2_with fail
  go_ret
  exact ⟨rfl, hb1⟩

/-- an index that is at least 0 exactly if one of L passes p -/
def RetIx (b : Bool) (w : World) : Ending → World → Prop := fun e w' => ∃ i : Int, e = .returned (.int .i64 i) ∧ decide (0 ≤ i) = b ∧ Below w.heap.size w w'
theorem any_stepX {α : Type} (p : α → Bool) (L : List α) {k : Nat} (h : k < L.length) : (L.take (k + 1)).any p = ((L.take k).any p || p L[k]) := by
  rw [List.take_succ_eq_append_getElem h, List.any_append]; simp

set_option maxRecDepth 100000 in
set_option maxHeartbeats 2000000 in
theorem idxBest_any (fn : FuncId) (p : List Int → List Int → Bool) (hcf : ∀ a b w, (callFunc fn #[a, b]).run Tryz.prog w = .ok (.enter fn #[a, b]) w)
    (hj : ∀ A B x y ca cb w, RI w A x → RI w B y → x.length ≤ 1000 → y.length ≤ 1000 → Calls Tryz.prog fn #[.slice A x.length ca, .slice B y.length cb] w (RetB (.bool (p x y)) w))
    (g1 g2 : Nat) (A B : Option Addr) (L : List (List Int)) (y : List Int) (ca cb : Nat) (w : World) (hL : RSo w A L) (hy : RI w B y) (hlL : L.length ≤ 100000) (hll : ∀ x ∈ L, x.length ≤ 1000) (hly : y.length ≤ 1000)
    (c1 : w.cell? ⟨g1, 0, none⟩ = some (.func (.func fn) #[] #[])) (c2 : w.cell? ⟨g2, 0, none⟩ = some (.slice B y.length cb)) :
    Calls Tryz.prog 60 #[.slice A L.length ca, .func (.func 36) #[] #[.pointer (some ⟨g1, 0, none⟩), .pointer (some ⟨g2, 0, none⟩)]] w (RetIx (L.any fun x => p x y) w) := by
  have Hj := Lib.hid hj; have Hcf := Lib.hid hcf; have Hll := Lib.hid hll
  clear hj hcf hll
  go_enter Tryz.func60, Tryz.ntmps60
  go_wp2_with fail
  go_loopw [8] (fun i wr => ∃ k : Nat, k ≤ L.length ∧ i = .int .i64 k ∧ (L.take k).any (fun x => p x y) = false ∧ Below w.heap.size w wr) (fun i _ => L.length - (intOf i).toNat)
  case atStart => exact ⟨0, Nat.zero_le _, rfl, by simp, Below.refl _ _⟩
  case round =>
    obtain ⟨k, hk, rfl, hi, hbl⟩ := hrel
    have Hi := Lib.hid hi; clear hi
    by_cases hlt : k < L.length
    case neg =>
      have hall : (L.any fun x => p x y) = false := by have := Hi.out; rwa [List.take_of_length_le (by omega)] at this
      have Hall := Lib.hid hall
      clear hall
      go_wp2_with fail
      go_ret
      exact ⟨_, rfl, by rw [Hall.out]; rfl, hbl⟩
    case pos =>
    have hlt' : (k : Int) < (L.length : Int) := by omega
    obtain ⟨b, o, AX, cx, hA, hcell, _, hri⟩ := hL.below hbl k hlt
    subst hA
    have hstp := any_stepX (fun x => p x y) L hlt
    rw [Hi.out, Bool.false_or] at hstp
    have hlx := Hll.out _ (List.getElem_mem hlt)
    have hany : p L[k] y = true → (L.any fun x => p x y) = true := fun h => List.any_eq_true.2 ⟨_, List.getElem_mem hlt, h⟩
    obtain ⟨x, hx⟩ : ∃ x, L[k] = x := ⟨_, rfl⟩
    rw [hx] at hcell hri hlx hany hstp
    have Hstp := Lib.hid hstp; have Hany := Lib.hid hany
    have hb := best1_any fn p Hcf.out Hj.out g1 g2 AX B x y cx cb wr hri (hy.below hbl) hlx hly ((hbl.cell (lt_of_cell c1)).trans c1) ((hbl.cell (lt_of_cell c2)).trans c2)
    have Hb := Lib.hid hb
    clear hstp hany hx hb
    go_wp2_with fail
    refine Hb.out.mono ?_
    rintro e w1 ⟨rfl, hb1⟩
    cases hp : p x y
    · have Hp := Lib.hid hp; clear hp
      go_wp2_with fail
      go_roundw
      case rel => exact ⟨k + 1, by omega, by go_num, by rw [Hstp.out]; exact Hp.out, endB hbl hb1⟩
      case measure => simp [intOf]; omega
    · have Hp := Lib.hid (Hany.out hp); clear hp
      go_wp2_with fail
      go_ret
      exact ⟨_, rfl, by rw [Hp.out]; simp, endB hbl hb1⟩
set_option maxRecDepth 100000 in
set_option maxHeartbeats 2000000 in
theorem conBest_any (fn : FuncId) (p : List Int → List Int → Bool) (hcf : ∀ a b w, (callFunc fn #[a, b]).run Tryz.prog w = .ok (.enter fn #[a, b]) w)
    (hj : ∀ A B x y ca cb w, RI w A x → RI w B y → x.length ≤ 1000 → y.length ≤ 1000 → Calls Tryz.prog fn #[.slice A x.length ca, .slice B y.length cb] w (RetB (.bool (p x y)) w))
    (g1 g2 : Nat) (A B : Option Addr) (L : List (List Int)) (y : List Int) (ca cb : Nat) (w : World) (hL : RSo w A L) (hy : RI w B y) (hlL : L.length ≤ 100000) (hll : ∀ x ∈ L, x.length ≤ 1000) (hly : y.length ≤ 1000)
    (c1 : w.cell? ⟨g1, 0, none⟩ = some (.func (.func fn) #[] #[])) (c2 : w.cell? ⟨g2, 0, none⟩ = some (.slice B y.length cb)) :
    Calls Tryz.prog 30 #[.slice A L.length ca, .func (.func 36) #[] #[.pointer (some ⟨g1, 0, none⟩), .pointer (some ⟨g2, 0, none⟩)]] w (RetB (.bool (L.any fun x => p x y)) w) := by
  have H := Lib.hid (idxBest_any fn p hcf hj g1 g2 A B L y ca cb w hL hy hlL hll hly c1 c2)
  clear hcf hj
  go_enter Tryz.func30, Tryz.ntmps30
  go_wp2_with fail
  refine H.out.mono ?_
  rintro e w1 ⟨i, rfl, hi, hb⟩
  have Hi := Lib.hid hi
  clear hi
  obtain ⟨r, hr⟩ : ∃ r, decide (0 ≤ i) = r := ⟨_, rfl⟩
  cases r
  all_goals
    have Hr := Lib.hid hr
    go_wp2_with fail
    go_ret
    exact ⟨rb (by rw [← Hi.out, Hr.out]), hb⟩
end Go.Proofs.YthkknlnfdckdfaaGreatDoor

/- Package extension: best, Preferred, Stable, SemiStable. -/
namespace Go.Proofs.YthkknlnfdckdfaaGreatDoor
open Go.ChangeShapes Go.WideShapes Go.ChangeAt Go.RowKit

theorem compR_sm (N : Int) (l : List (Int × Int)) : (compR N l).1.length ≤ 200 ∧ ∀ x ∈ (compR N l).1, x.length ≤ 100 := by
  unfold compR
  split
  · rename_i hv
    have hN : N.toNat ≤ 40 := by
      unfold valE at hv
      split at hv
      · cases hv
      · omega
    split
    · exact ⟨by simp, fun x hx => by cases hx⟩
    · exact ⟨by simp only; omega, fun x hx => by have := comp_len hx; omega⟩
  · exact ⟨by simp, fun x hx => by cases hx⟩
/-- the call returns lists (their capacity is enough) and an error -/
def RetLC (r : List (List Int) × Int) (w : World) : Ending → World → Prop := fun e w' => ∃ A c, e = .returned (.tuple #[.slice A r.1.length c, .int .i64 r.2]) ∧ RSo w' A r.1 ∧ (A = none → r.1 = [] ∧ c = 0) ∧ r.1.length ≤ c ∧ Below w.heap.size w w'
theorem RetLC.le {r : List (List Int) × Int} {w w' : World} {e : Ending} (h : RetLC r w e w') : RetLE r w e w' := by
  obtain ⟨A, c, h1, h2, h3, _, h4⟩ := h
  exact ⟨A, c, h1, h2, h3, h4⟩
theorem OwnS.capX {w : World} {b : Nat} {A : Option Addr} {n c : Nat} {xs : List Value} (h : OwnS w b (.slice A n c) xs) : n ≤ c := by
  obtain ⟨_, h2⟩ := h
  rcases h2 with ⟨e, _⟩ | ⟨g, cap, cur, e, _, _, hc, _⟩
  · injection e with _ e1 e2; omega
  · injection e with _ e1 e2; omega
/-- those that none of the list puts out -/
def keptL (p : List Int → List Int → Bool) (L : List (List Int)) : List (List Int) := L.filter fun x => !(L.any fun z => p z x)
/-- what best answers -/
def bestR (p : List Int → List Int → Bool) (N : Int) (l : List (Int × Int)) : List (List Int) × Int := if (compR N l).2 = 0 then (keptL p (compR N l).1, 0) else ([], (compR N l).2)
theorem filter_stepX {α : Type} (p : α → Bool) (L : List α) {k : Nat} (h : k < L.length) : (L.take (k + 1)).filter p = (L.take k).filter p ++ if p L[k] then [L[k]] else [] := by
  rw [List.take_succ_eq_append_getElem h, List.filter_append]
  congr 1
  rw [List.filter_cons, List.filter_nil]

set_option maxRecDepth 100000 in
set_option maxHeartbeats 4000000 in
theorem best_any (fn : FuncId) (p : List Int → List Int → Bool) (hcf : ∀ a b w, (callFunc fn #[a, b]).run Tryz.prog w = .ok (.enter fn #[a, b]) w)
    (hj : ∀ A B x y ca cb w, RI w A x → RI w B y → x.length ≤ 1000 → y.length ≤ 1000 → Calls Tryz.prog fn #[.slice A x.length ca, .slice B y.length cb] w (RetB (.bool (p x y)) w))
    (A : Option Addr) (N : Int) (l : List (Int × Int)) (c : Nat) (w : World) (hr : RP w A l) (hlen : l.length ≤ 100000) (hT : Tab w) :
    Calls Tryz.prog 12 #[.agg #[.int .i64 N, .slice A l.length c], .func (.func fn) #[] #[]] w (RetLC (bestR p N l) w) := by
  have hmf : ∀ fn first cap w, (Instr.makeFunc fn first cap).run Tryz.prog w = .ok (.func fn first cap) w := fun _ _ _ _ => rfl
  have Hj := Lib.hid hj; have Hcf := Lib.hid hcf
  clear hj hcf
  go_enter Tryz.func12, Tryz.ntmps12
  go_upto_region 1 with fail
  obtain ⟨W0, hW, d0, d1, f0, hb0⟩ : ∃ W0, (w.alloc (.cells #[.int .i64 N, .slice A l.length c] 27)).alloc (.cells #[.func (.func fn) #[] #[]] 50) = W0 ∧ W0.cell? ⟨w.heap.size, 0, none⟩ = some (.int .i64 N) ∧ W0.cell? ⟨w.heap.size, 1, none⟩ = some (.slice A l.length c) ∧ W0.cell? ⟨w.heap.size + 1, 0, none⟩ = some (.func (.func fn) #[] #[]) ∧ Below w.heap.size w W0 := by
    obtain ⟨W9, hW9, d0, d1, hb9, hlt9⟩ := boxed w 27 (.int .i64 N) (.slice A l.length c)
    have hs9 : W9.heap.size = w.heap.size + 1 := by rw [← hW9]; simp
    obtain ⟨W8, hW8, f0, hb8⟩ := boxed1 W9 50 (.func (.func fn) #[] #[])
    rw [hs9] at f0
    exact ⟨W8, by rw [hW9]; exact hW8, (hb8.cell (lt_of_cell d0)).trans d0, (hb8.cell (lt_of_cell d1)).trans d1, f0, endB hb9 hb8⟩
  rw [hW]
  clear hW
  obtain ⟨C, hC⟩ : ∃ C, compR N l = C := ⟨_, rfl⟩
  have hcc := complete_any A N l c W0 (hr.below hb0) hlen (hT.below hb0)
  obtain ⟨hs1, hs2⟩ := compR_sm N l
  have hbest : bestR p N l = if C.2 = 0 then (keptL p C.1, 0) else ([], C.2) := by unfold bestR; rw [hC]
  rw [hC] at hcc hs1 hs2
  have Hcc := Lib.hid hcc; have Hbest := Lib.hid hbest; have Hs2 := Lib.hid hs2
  clear hcc hbest hs2 hC
  obtain ⟨L, x⟩ := C
  have hs1' : L.length ≤ 200 := hs1
  clear hs1
  go_wp2_with fail
  refine Hcc.out.mono ?_
  rintro e W5 ⟨A5, c5, rfl, hr5, hn5, hb5⟩
  have hB5 := endB hb0 hb5
  have hr5' : RSo W5 A5 L := hr5
  have f5 := (hb5.cell (lt_of_cell f0)).trans f0
  have Hr5 := Lib.hid hr5'
  clear Hcc hr5 hr5' hn5 d0 d1 f0
  by_cases hx0 : x = 0
  case neg =>
    have hxb : (x == 0) = false := beq_eq_false_iff_ne.2 hx0
    have hres : bestR p N l = ([], x) := by rw [Hbest.out]; exact if_neg hx0
    have Hres := Lib.hid hres
    clear hres
    go_wp2_with fail
    go_ret2
    rw [Hres.out]
    exact ⟨none, 0, rfl, RSo.nil _ _, fun _ => ⟨rfl, rfl⟩, Nat.le_refl _, hB5⟩
  case pos =>
  subst hx0
  have hres : bestR p N l = (keptL p L, 0) := by rw [Hbest.out]; exact if_pos rfl
  have Hres := Lib.hid hres
  clear hres Hbest
  go_wp2_with fail
  go_loopw [8, 21] (fun v i wr => ∃ (k : Nat) (xs : List Value), k ≤ L.length ∧ i = .int .i64 k ∧ OwnS wr W5.heap.size v xs ∧ OwnL W5 0 xs ((L.take k).filter fun x => !(L.any fun z => p z x)) ∧ Below W5.heap.size W5 wr) (fun _ i _ => L.length - (intOf i).toNat)
  case atStart => exact ⟨0, [], Nat.zero_le _, rfl, OwnS.nil _ _, OwnL.nil _ _, Below.refl _ _⟩
  case round =>
    obtain ⟨k, xs, hk, rfl, hown, hol, hbl⟩ := hrel
    have Hol := Lib.hid hol
    clear hol
    by_cases hlt : k < L.length
    case neg =>
      have hol := Hol.out
      rw [List.take_of_length_le (by omega)] at hol
      obtain ⟨A6, c6, rfl, hr6, hn6⟩ := OwnS.forms2 hown (hol.below hbl)
      have hca := hown.capX
      have hkp : (L.filter fun x => !(L.any fun z => p z x)) = keptL p L := rfl
      rw [hkp] at hr6 hn6 hca
      rw [hkp]
      obtain ⟨K, hK⟩ : ∃ K, keptL p L = K := ⟨_, rfl⟩
      rw [hK] at hr6 hn6 hca
      rw [hK]
      have HK := Lib.hid hK; have Hr6 := Lib.hid hr6; have Hn6 := Lib.hid hn6; have Hca := Lib.hid hca
      clear hol hkp hK hr6 hn6 hca hown
      go_wp2_with fail
      go_ret2
      rw [Hres.out, HK.out]
      exact ⟨A6, c6, rfl, Hr6.out, Hn6.out, Hca.out, endB hB5 hbl⟩
    case pos =>
    have hlt' : (k : Int) < (L.length : Int) := by omega
    obtain ⟨b, o, AX, cx, hA, hcell5, hox, hri5⟩ := Hr5.out k hlt
    subst hA
    have hcell := (hbl.cell (lt_of_cell hcell5)).trans hcell5
    have hlx := Hs2.out _ (List.getElem_mem hlt)
    have hst := filter_stepX (fun x => !(L.any fun z => p z x)) L hlt
    obtain ⟨y, hy⟩ : ∃ y, L[k] = y := ⟨_, rfl⟩
    rw [hy] at hcell hox hri5 hlx hst
    have hly : y.length ≤ 100 := hlx
    have hxs : xs.length ≤ 1000000 := by
      have h1 := Hol.out.1
      have h2 := List.length_filter_le (fun x => !(L.any fun z => p z x)) (L.take k)
      have h3 := List.length_take_le' k L
      omega
    have Hst := Lib.hid hst; have Hxs := Lib.hid hxs; have Hown := Lib.hid hown; have Hox := Lib.hid hox
    obtain ⟨W6, hW6, j0, hb6⟩ := boxed1 wr 22 (.slice AX y.length cx)
    have hbl6 := endB hbl hb6
    have hcon := conBest_any fn p Hcf.out Hj.out (w.heap.size + 1) wr.heap.size (some ⟨b, o, none⟩) AX L y c5 cx W6 (Hr5.out.below hbl6) (hri5.below hbl6) (by omega) (fun z hz => by have := Hs2.out z hz; omega) (by omega) ((hbl6.cell (lt_of_cell f5)).trans f5) j0
    have Hcon := Lib.hid hcon
    clear hst hxs hown hox hcon hy hcell5 hlx
    go_wp2_with fail
    refine Hcon.out.mono ?_
    rintro e W7 ⟨rfl, hb7⟩
    have hbl7 := endB hbl6 hb7
    have j7 := (hb7.cell (lt_of_cell j0)).trans j0
    have hown7 : OwnS W7 W5.heap.size _ xs := ownsRow_below Hown.out (endB hb6 hb7)
    have Hown7 := Lib.hid hown7
    clear hown7
    cases hq : (L.any fun z => p z y)
    · have Hq := Lib.hid hq; clear hq
      go_wp2_with (at_builtin; refine wpList_appS (by rfl) (.tmp 29) (.tmp 31) (by rfl) W7 W5.heap.size _ xs AX y.length cx Hown7.out (by rfl) (by rfl) Hxs.out hbl7.size ?_; intro v' w3 hown' hb3 hg3)
      go_roundw
      case rel => exact ⟨k + 1, _, by omega, by go_num, hown', by rw [Hst.out, Hq.out]; exact Hol.out.snoc Hox.out, hbl7.trans hb3⟩
      case measure => simp [intOf]; omega
    · have Hq := Lib.hid hq; clear hq
      go_wp2_with fail
      go_roundw
      case rel => exact ⟨k + 1, xs, by omega, by go_num, Hown7.out, by rw [Hst.out, Hq.out]; simpa using Hol.out, hbl7⟩
      case measure => simp [intOf]; omega

set_option maxRecDepth 100000 in
set_option maxHeartbeats 1000000 in
theorem xPreferred_any (A : Option Addr) (N : Int) (l : List (Int × Int)) (c : Nat) (w : World) (hr : RP w A l) (hlen : l.length ≤ 100000) (hT : Tab w) :
    Calls Tryz.prog 6 #[.agg #[.int .i64 N, .slice A l.length c]] w (RetLC (bestR prefP N l) w) := by
  go_enter Tryz.func6, Tryz.ntmps6
  go_upto_region 1 with fail
  obtain ⟨W0, hW, d0, d1, hb0, hlt0⟩ := boxed w 27 (.int .i64 N) (.slice A l.length c)
  rw [hW]
  clear hW
  have H := best_any 13 prefP (fun _ _ _ => rfl) (fun A B x y ca cb w hx hy hlx hly => xpref_any A B x y ca cb w hx hy hlx hly) A N l c W0 (hr.below hb0) hlen (hT.below hb0)
  obtain ⟨R, hR⟩ : ∃ R, bestR prefP N l = R := ⟨_, rfl⟩
  rw [hR] at H
  have HH := Lib.hid H; have HR := Lib.hid hR
  clear H hR
  go_wp2_with fail
  refine HH.out.mono ?_
  rintro e w1 ⟨A1, c1, rfl, hr1, hn1, hca, hb1⟩
  have Hr1 := Lib.hid hr1; have Hn1 := Lib.hid hn1; have Hca := Lib.hid hca
  clear hr1 hn1 hca
  go_wp2_with fail
  go_ret2
  rw [HR.out]
  exact ⟨A1, c1, rfl, Hr1.out, Hn1.out, Hca.out, endB hb0 hb1⟩

end Go.Proofs.YthkknlnfdckdfaaGreatDoor

/- Package extension: Some, All. -/
namespace Go.Proofs.YthkknlnfdckdfaaGreatDoor
open Go.ChangeShapes Go.WideShapes Go.ChangeAt Go.RowKit


set_option maxRecDepth 100000 in
set_option maxHeartbeats 1000000 in
theorem some1_any (g : Nat) (A : Option Addr) (x : List Int) (c : Nat) (i : Int) (w : World) (hr : RI w A x) (hl : x.length ≤ 100000) (c1 : w.cell? ⟨g, 0, none⟩ = some (.int .i64 i)) :
    Calls Tryz.prog 31 #[.slice A x.length c, .pointer (some ⟨g, 0, none⟩)] w (Ret (.bool (atB x i)) w) := by
  have H := Lib.hid (xIn_any A x c i w hr hl)
  go_enter Tryz.func31, Tryz.ntmps31
  go_wp2_with fail
  refine H.out.mono ?_
  rintro e w1 ⟨rfl, rfl⟩
  go_wp2_with fail
  go_ret
  exact ⟨rfl, rfl⟩
set_option maxRecDepth 100000 in
set_option maxHeartbeats 2000000 in
theorem idxSome_any (g : Nat) (A : Option Addr) (L : List (List Int)) (ca : Nat) (i : Int) (w : World) (hL : RS w A L) (hlL : L.length ≤ 100000) (hll : ∀ x ∈ L, x.length ≤ 1000) (c1 : w.cell? ⟨g, 0, none⟩ = some (.int .i64 i)) :
    Calls Tryz.prog 60 #[.slice A L.length ca, .func (.func 31) #[] #[.pointer (some ⟨g, 0, none⟩)]] w (RetIx (L.any fun x => atB x i) w) := by
  have Hll := Lib.hid hll
  clear hll
  go_enter Tryz.func60, Tryz.ntmps60
  go_wp2_with fail
  go_loopw [8] (fun j wr => ∃ k : Nat, k ≤ L.length ∧ j = .int .i64 k ∧ (L.take k).any (fun x => atB x i) = false ∧ Below w.heap.size w wr) (fun j _ => L.length - (intOf j).toNat)
  case atStart => exact ⟨0, Nat.zero_le _, rfl, by simp, Below.refl _ _⟩
  case round =>
    obtain ⟨k, hk, rfl, hi, hbl⟩ := hrel
    have Hi := Lib.hid hi; clear hi
    by_cases hlt : k < L.length
    case neg =>
      have hall : (L.any fun x => atB x i) = false := by have := Hi.out; rwa [List.take_of_length_le (by omega)] at this
      have Hall := Lib.hid hall
      clear hall
      go_wp2_with fail
      go_ret
      exact ⟨_, rfl, by rw [Hall.out]; rfl, hbl⟩
    case pos =>
    have hlt' : (k : Int) < (L.length : Int) := by omega
    obtain ⟨b, o, AX, cx, hA, hcell, hri⟩ := (hL.below hbl).at_ hlt
    subst hA
    have hstp := any_stepX (fun x => atB x i) L hlt
    rw [Hi.out, Bool.false_or] at hstp
    have hlx := Hll.out _ (List.getElem_mem hlt)
    have hany : ∀ x, L[k] = x → (atB x i) = true → (L.any fun x => atB x i) = true := fun x e h => List.any_eq_true.2 ⟨x, e ▸ List.getElem_mem hlt, h⟩
    obtain ⟨x, hx⟩ : ∃ x, L[k] = x := ⟨_, rfl⟩
    rw [hx] at hcell hri hlx hstp
    have Hstp := Lib.hid hstp; have Hany := Lib.hid (hany x hx)
    have hb := some1_any g AX x cx i wr hri (by omega) ((hbl.cell (lt_of_cell c1)).trans c1)
    have Hb := Lib.hid hb
    clear hstp hany hx hb
    go_wp2_with fail
    refine Hb.out.mono ?_
    rintro e w1 ⟨rfl, rfl⟩
    cases hp : (atB x i)
    · have Hp := Lib.hid hp; clear hp
      go_wp2_with fail
      go_roundw
      case rel => exact ⟨k + 1, by omega, by go_num, by rw [Hstp.out]; exact Hp.out, hbl⟩
      case measure => simp [intOf]; omega
    · have Hp := Lib.hid (Hany.out hp); clear hp
      go_wp2_with fail
      go_ret
      exact ⟨_, rfl, by rw [Hp.out]; simp, hbl⟩
set_option maxRecDepth 100000 in
set_option maxHeartbeats 2000000 in
theorem conSome_any (g : Nat) (A : Option Addr) (L : List (List Int)) (ca : Nat) (i : Int) (w : World) (hL : RS w A L) (hlL : L.length ≤ 100000) (hll : ∀ x ∈ L, x.length ≤ 1000) (c1 : w.cell? ⟨g, 0, none⟩ = some (.int .i64 i)) :
    Calls Tryz.prog 30 #[.slice A L.length ca, .func (.func 31) #[] #[.pointer (some ⟨g, 0, none⟩)]] w (RetB (.bool (L.any fun x => atB x i)) w) := by
  have H := Lib.hid (idxSome_any g A L ca i w hL hlL hll c1)
  go_enter Tryz.func30, Tryz.ntmps30
  go_wp2_with fail
  refine H.out.mono ?_
  rintro e w1 ⟨j, rfl, hi, hb⟩
  have Hi := Lib.hid hi
  clear hi
  obtain ⟨r, hr⟩ : ∃ r, decide (0 ≤ j) = r := ⟨_, rfl⟩
  cases r
  all_goals
    have Hr := Lib.hid hr
    go_wp2_with fail
    go_ret
    exact ⟨rb (by rw [← Hi.out, Hr.out]), hb⟩
set_option maxRecDepth 100000 in
set_option maxHeartbeats 1000000 in
theorem xSome_any (A : Option Addr) (L : List (List Int)) (ca : Nat) (i : Int) (w : World) (hL : RS w A L) (hlL : L.length ≤ 100000) (hll : ∀ x ∈ L, x.length ≤ 1000) :
    Calls Tryz.prog 9 #[.slice A L.length ca, .int .i64 i] w (RetB (.bool (L.any fun x => atB x i)) w) := by
  have hmf : ∀ fn first cap w, (Instr.makeFunc fn first cap).run Tryz.prog w = .ok (.func fn first cap) w := fun _ _ _ _ => rfl
  go_enter Tryz.func9, Tryz.ntmps9
  go_upto_region 1 with fail
  obtain ⟨W0, hW, c0, hb0⟩ := boxed1 w 3 (.int .i64 i)
  rw [hW]
  clear hW
  have hc := conSome_any w.heap.size A L ca i W0 (hL.below hb0) hlL hll c0
  have Hc := Lib.hid hc
  clear hc hll
  go_wp2_with fail
  refine Hc.out.mono ?_
  rintro e w1 ⟨rfl, hb1⟩
  obtain ⟨r, hr⟩ : ∃ r, (L.any fun x => atB x i) = r := ⟨_, rfl⟩
  rw [hr]
  have Hr := Lib.hid hr
  clear hr
  go_wp2_with fail
  go_ret
  exact ⟨rb (by rw [Hr.out]), endB hb0 hb1⟩

end Go.Proofs.YthkknlnfdckdfaaGreatDoor
