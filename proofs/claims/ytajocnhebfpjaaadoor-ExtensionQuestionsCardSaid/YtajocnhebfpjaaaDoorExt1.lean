/- Package extension: in, places, within. -/
import Derived.Test.YtajocnhebfpjaaaDoorLb
import Derived.Test.YtajocnhebfpjaaaDoorInsW
namespace Go.Proofs.YtajocnhebfpjaaaDoor
open Go.ChangeShapes Go.WideShapes Go.ChangeAt Go.RowKit

theorem boxed1 (w : World) (t : TypeId) (x : Value) : ∃ W0, w.alloc (.cells #[x] t) = W0 ∧ W0.cell? ⟨w.heap.size, 0, none⟩ = some x ∧ Below w.heap.size w W0 :=
  ⟨_, rfl, by rw [(Blk.new w t #[x]).cell]; rfl, (Below.refl _ _).alloc (Nat.le_refl _) _⟩
/-- label 1 stands at place i -/
def atB (x : List Int) (i : Int) : Bool := decide (0 ≤ i) && decide (i < x.length) && (x.getD i.toNat 0 == 1)
/-- x has fewer members than y, and y has them all -/
def withinB (x y : List Int) : Bool := decide (x.length < y.length) && insideB x y
/-- the places of the labels in vs, label by label -/
def placesL (l vs : List Int) : List Int := vs.flatMap fun v => withL l v

set_option maxHeartbeats 1000000 in
theorem xIn_any (A : Option Addr) (x : List Int) (c : Nat) (i : Int) (w : World) (hr : RI w A x) (_hl : x.length ≤ 100000) :
    Calls Tryd.prog 83 #[.slice A x.length c, .int .i64 i] w (Ret (.bool (atB x i)) w) := by
  by_cases h0 : 0 ≤ i
  case neg =>
    have hd : decide (0 ≤ i) = false := by rw [decide_eq_false_iff_not]; exact h0
    have hz : atB x i = false := by unfold atB; rw [hd]; rfl
    have Hz := Lib.hid hz; clear hz
    go_enter Tryd.func83, Tryd.ntmps83
    go_wp2_with fail
    go_ret
    exact ⟨rb (by rw [Hz.out]), rfl⟩
  case pos =>
  by_cases h1 : i < (x.length : Int)
  case neg =>
    have hd : decide (i < (x.length : Int)) = false := by rw [decide_eq_false_iff_not]; exact h1
    have hz : atB x i = false := by unfold atB; rw [hd, Bool.and_false]; rfl
    have Hz := Lib.hid hz; clear hz
    go_enter Tryd.func83, Tryd.ntmps83
    go_wp2_with fail
    go_ret
    exact ⟨rb (by rw [Hz.out]), rfl⟩
  case pos =>
  obtain ⟨k, rfl⟩ := Int.eq_ofNat_of_zero_le h0
  have hk : k < x.length := by omega
  have hz : atB x (k : Int) = (x[k] == 1) := by
    unfold atB
    rw [decide_eq_true h0, decide_eq_true h1, Int.toNat_natCast]
    simp [List.getD, hk]
  obtain ⟨b, o, rfl, hc⟩ := hr.at_ hk
  obtain ⟨y, hy⟩ : ∃ y, x[k] = y := ⟨_, rfl⟩
  rw [hy] at hc hz
  have Hz := Lib.hid hz; clear hz hy
  go_enter Tryd.func83, Tryd.ntmps83
  go_wp2_with fail
  go_ret
  exact ⟨rb (by rw [Hz.out]), rfl⟩

set_option maxHeartbeats 1000000 in
theorem within1_any (g : Nat) (B : Option Addr) (y : List Int) (c : Nat) (v : Int) (w : World) (hc : w.cell? ⟨g, 0, none⟩ = some (.slice B y.length c)) (hr : RI w B y) (hl : y.length ≤ 100000) :
    Calls Tryd.prog 114 #[.int .i64 v, .pointer (some ⟨g, 0, none⟩)] w (Ret (.bool (!inB y v)) w) := by
  go_enter Tryd.func114, Tryd.ntmps114
  go_wp2_with fail
  refine (containsI_any B y c v w hr hl).mono ?_
  rintro e w1 ⟨rfl, rfl⟩
  go_wp2_with fail
  go_ret
  exact ⟨rfl, rfl⟩

set_option maxHeartbeats 1000000 in
theorem idxWithin_any (g : Nat) (B : Option Addr) (y : List Int) (cy : Nat) (A : Option Addr) (l : List Int) (c : Nat) (w : World) (hr : RI w A l) (hl : l.length ≤ 100000)
    (hc : w.cell? ⟨g, 0, none⟩ = some (.slice B y.length cy)) (hry : RI w B y) (hly : y.length ≤ 100000) :
    Calls Tryd.prog 127 #[.slice A l.length c, .func (.func 114) #[] #[.pointer (some ⟨g, 0, none⟩)]] w (Ret (.int .i64 (idxP (fun v => !inB y v) 0 l)) w) := by
  go_enter Tryd.func127, Tryd.ntmps127
  go_wp2_with fail
  go_loop [8] (fun i => ∃ k : Nat, k ≤ l.length ∧ i = .int .i64 k ∧ idxP (fun v => !inB y v) k (l.drop k) = idxP (fun v => !inB y v) 0 l) (fun i => l.length - (intOf i).toNat)
  case atStart => exact ⟨0, Nat.zero_le _, rfl, rfl⟩
  case round =>
    obtain ⟨k, hk, rfl, hi⟩ := hrel
    have Hi := Lib.hid hi; clear hi
    by_cases hlt : k < l.length
    case neg =>
      go_wp2_with fail
      go_ret
      exact ⟨ri (by rw [← Hi.out, idxP_end hlt]), rfl⟩
    case pos =>
    obtain ⟨b, o, rfl, hce⟩ := hr.at_ hlt
    have H := Lib.hid (within1_any g B y cy l[k] w hc hry hly)
    go_wp2_with fail
    refine H.out.mono ?_
    rintro e w1 ⟨rfl, rfl⟩
    cases hb : (!inB y l[k])
    · have Hb := Lib.hid hb; clear hb
      go_wp2_with fail
      go_round
      case rel => exact ⟨k + 1, by omega, by go_num, by rw [← idxP_miss hlt Hb.out]; exact Hi.out⟩
      case measure => simp [intOf]; omega
    · have Hb := Lib.hid hb; clear hb
      go_wp2_with fail
      go_ret
      exact ⟨ri (by rw [← Hi.out, idxP_hit hlt Hb.out]), rfl⟩
set_option maxHeartbeats 400000 in
theorem conWithin_any (g : Nat) (B : Option Addr) (y : List Int) (cy : Nat) (A : Option Addr) (l : List Int) (c : Nat) (w : World) (hr : RI w A l) (hl : l.length ≤ 100000)
    (hc : w.cell? ⟨g, 0, none⟩ = some (.slice B y.length cy)) (hry : RI w B y) (hly : y.length ≤ 100000) :
    Calls Tryd.prog 108 #[.slice A l.length c, .func (.func 114) #[] #[.pointer (some ⟨g, 0, none⟩)]] w (Ret (.bool (!insideB l y)) w) := by
  have h : decide (0 ≤ idxP (fun v => !inB y v) 0 l) = !insideB l y := by
    rw [idxP_any]; unfold insideB; rw [List.not_all_eq_any_not]
  have H := Lib.hid h; clear h
  have HI := idxWithin_any g B y cy A l c w hr hl hc hry hly
  go_enter Tryd.func108, Tryd.ntmps108
  go_wp2_with fail
  refine HI.mono ?_
  clear HI
  rintro e w1 ⟨rfl, rfl⟩
  go_wp2_with fail
  go_ret
  exact ⟨rb H.out, rfl⟩
set_option maxHeartbeats 1000000 in
theorem within_any (A B : Option Addr) (x y : List Int) (cx cy : Nat) (w : World) (hx : RI w A x) (hy : RI w B y) (hlx : x.length ≤ 100000) (hly : y.length ≤ 100000) :
    Calls Tryd.prog 74 #[.slice A x.length cx, .slice B y.length cy] w (RetB (.bool (withinB x y)) w) := by
  have hmf : ∀ fn first cap w, (Instr.makeFunc fn first cap).run Tryd.prog w = .ok (.func fn first cap) w := fun _ _ _ _ => rfl
  by_cases hlt : x.length < y.length
  case neg =>
    have hd : decide ((x.length : Int) < (y.length : Int)) = false := by rw [decide_eq_false_iff_not]; omega
    have hz : withinB x y = false := by unfold withinB; rw [decide_eq_false hlt]; rfl
    have Hz := Lib.hid hz
    clear hz
    go_enter Tryd.func74, Tryd.ntmps74
    go_upto_region 1 with fail
    obtain ⟨W0, hW, c0, hb0⟩ := boxed1 w 25 (.slice B y.length cy)
    rw [hW]
    clear hW
    go_wp2_with fail
    go_ret
    exact ⟨rb (by rw [Hz.out]), hb0⟩
  case pos =>
    have hlt' : (x.length : Int) < (y.length : Int) := by omega
    have hd : decide ((x.length : Int) < (y.length : Int)) = true := decide_eq_true hlt'
    have hz : withinB x y = insideB x y := by unfold withinB; rw [decide_eq_true hlt]; rfl
    have Hz := Lib.hid hz
    clear hz
    go_enter Tryd.func74, Tryd.ntmps74
    go_upto_region 1 with fail
    obtain ⟨W0, hW, c0, hb0⟩ := boxed1 w 25 (.slice B y.length cy)
    rw [hW]
    clear hW
    have hcw := conWithin_any w.heap.size B y cy A x cx W0 (hx.below hb0) hlx c0 (hy.below hb0) hly
    have Hcw := Lib.hid hcw
    clear hcw
    go_wp2_with fail
    refine Hcw.out.mono ?_
    rintro e w1 ⟨rfl, rfl⟩
    go_wp2_with fail
    go_ret
    exact ⟨rb (by rw [Hz.out]), hb0⟩

theorem own_noneI {w : World} {b : Nat} {A : Option Addr} {l : List Int} {c : Nat} (h : OwnI w b (.slice A l.length c) l) : A = none → l = [] ∧ c = 0 := fun e => by
  subst e
  obtain ⟨A9, c9, e9, _, h9⟩ := h.form2
  injection e9 with e1 e2 e3
  subst e1 e3
  exact h9 rfl
theorem placesL_snoc (l vs : List Int) (v : Int) : placesL l (vs ++ [v]) = placesL l vs ++ withL l v := by unfold placesL; rw [List.flatMap_append]; simp
theorem placesL_len (l vs : List Int) : (placesL l vs).length ≤ vs.length * l.length := by
  refine snoc_ind (P := fun vs => (placesL l vs).length ≤ vs.length * l.length) (by simp [placesL]) ?_ vs
  intro vs v ih
  rw [placesL_snoc, List.length_append, List.length_append, List.length_singleton, Nat.add_mul, Nat.one_mul]
  have : (withL l v).length ≤ l.length := nodesB_length _ _
  omega

set_option maxRecDepth 100000 in
set_option maxHeartbeats 2000000 in
theorem places_any (A B : Option Addr) (l vs : List Int) (ca cb : Nat) (w : World) (hr : RI w A l) (hv : RI w B vs) (hl : l.length ≤ 1000) (hvl : vs.length ≤ 100) :
    Calls Tryd.prog 75 #[.slice A l.length ca, .slice B vs.length cb] w (RetI (placesL l vs) w) := by
  go_enter Tryd.func75, Tryd.ntmps75
  go_wp2_with fail
  go_loopw [5, 10] (fun u i wr => ∃ k : Nat, k ≤ vs.length ∧ i = .int .i64 k ∧ OwnI wr w.heap.size u (placesL l (vs.take k)) ∧ Below w.heap.size w wr) (fun _ i _ => vs.length - (intOf i).toNat)
  case atStart => exact ⟨0, Nat.zero_le _, rfl, OwnI.nil _ _, Below.refl _ _⟩
  case round =>
    obtain ⟨k, hk, rfl, hown, hbl⟩ := hrel
    by_cases hlt : k < vs.length
    case neg =>
      have hfull : vs.take k = vs := List.take_of_length_le (by omega)
      rw [hfull] at hown
      have Hown := Lib.hid hown
      clear hown hfull
      go_wp2_with fail
      go_ret
      exact RetI.mk Hown.out hbl
    case pos =>
    have hlt' : (k : Int) < (vs.length : Int) := by omega
    obtain ⟨b, o, rfl, hc⟩ := (hv.below hbl).at_ hlt
    have hst : placesL l (vs.take (k + 1)) = placesL l (vs.take k) ++ withL l vs[k] := by rw [List.take_succ_eq_append_getElem hlt, placesL_snoc]
    obtain ⟨y, hy⟩ : ∃ y, vs[k] = y := ⟨_, rfl⟩
    rw [hy] at hc hst
    have hl1 : (placesL l (vs.take k)).length + (withL l y).length ≤ 1000000 := by
      have h1 := placesL_len l (vs.take k)
      have h2 : (withL l y).length ≤ l.length := nodesB_length _ _
      have h3 := List.length_take_le' k vs
      have h4 : (vs.take k).length * l.length ≤ 100 * 1000 := Nat.mul_le_mul (by omega) hl
      omega
    have Hst := Lib.hid hst; have Hl1 := Lib.hid hl1; have Hown := Lib.hid hown
    have hcw := with_any A l ca y wr (hr.below hbl) (by omega)
    have Hcw := Lib.hid hcw
    clear hst hl1 hy hown hcw
    go_wp2_with fail
    refine Hcw.out.mono ?_
    rintro e w1 ⟨A1, c1, rfl, ho1, hri1, _, hb1⟩
    have hn1 := own_noneI ho1
    have hbl1 := endB hbl hb1
    have hown1 : OwnI w1 w.heap.size _ _ := ownsRow_below Hown.out hb1
    have Hown1 := Lib.hid hown1
    have Hn1 := Lib.hid hn1
    clear hown1 hn1 ho1
    go_wp2_with (at_builtin; refine wpList_appIs (by rfl) (.tmp 14) (.tmp 17) (by rfl) w1 w.heap.size _ _ A1 (withL l y) c1 Hown1.out hri1 Hn1.out (by rfl) (by rfl) Hl1.out hbl1.size ?_; intro v' w2 hown2 hb2 hg2)
    go_roundw
    case rel => exact ⟨k + 1, by omega, by go_num, by rw [Hst.out]; exact hown2, hbl1.trans hb2⟩
    case measure => simp [intOf]; omega

/-- the judgements of Preferred, Stable and SemiStable: y puts x out -/
def prefB (x y : List Int) : Bool := withinB (placesL y [1]) (placesL x [1])
end Go.Proofs.YtajocnhebfpjaaaDoor
