/- LessCommitted and Meet of labelling and of ref11; ref11's Compare; ref11's Labellings. -/
import Derived.Test.YtajocnhebfpjaaaDoorPl11
import Derived.Test.YtajocnhebfpjaaaDoorRef13
import Derived.Test.YtajocnhebfpjaaaDoorGenM
namespace Go.Proofs.YtajocnhebfpjaaaDoor
open Go.ChangeShapes Go.WideShapes Go.ChangeAt Go.RowKit

theorem drq (w : World) (a b : Nat) : ∃ n, (w.drewN a).drewN b = w.drewN n := ⟨a + b, World.drewN_drewN _ _ _⟩
theorem drq3 (w : World) (a b c : Nat) : ∃ n, ((w.drewN a).drewN b).drewN c = w.drewN n := by
  rw [World.drewN_drewN]; exact drq _ _ _
theorem zerq (w : World) : ∃ n, w = w.drewN n := ⟨0, rfl⟩
theorem sinq (w : World) (a : Nat) : ∃ n, w.drewN a = w.drewN n := ⟨a, rfl⟩
/-- the test of one place -/
def lsB (a b : List Int) (i : Nat) : Bool := !(a.getD i 0 == 1 || a.getD i 0 == 2) || b.getD i 0 == a.getD i 0
def lsTo (a b : List Int) (k : Nat) : Bool := (List.range k).all (lsB a b)
theorem lsTo_succ {a b : List Int} {k : Nat} (h : lsTo a b k = true) (h1 : lsB a b k = true) : lsTo a b (k + 1) = true := by
  unfold lsTo at *
  rw [List.range_succ, List.all_append, h]; simp [h1]
theorem less_miss {a b : List Int} {k : Nat} (hk : k < a.length) (h1 : lsB a b k = false) : lessB a b = false := by
  cases h : lessB a b
  · rfl
  · unfold lessB at h
    rw [Bool.and_eq_true, List.all_eq_true] at h
    have := h.2 k (List.mem_range.2 hk)
    unfold lsB at h1
    rw [h1] at this; cases this
theorem less_all {a b : List Int} {k : Nat} (hk : ¬ k < a.length) (hk2 : k ≤ a.length) (hl : a.length = b.length) (h : lsTo a b k = true) : lessB a b = true := by
  obtain rfl : k = a.length := by omega
  unfold lessB
  rw [Bool.and_eq_true]
  exact ⟨decide_eq_true hl, h⟩
theorem less_len {a b : List Int} (h : a.length ≠ b.length) : lessB a b = false := by unfold lessB; rw [decide_eq_false h]; rfl
theorem lsB_free {a b : List Int} {k : Nat} (h1 : a.getD k 0 ≠ 1) (h2 : a.getD k 0 ≠ 2) : lsB a b k = true := by unfold lsB; rw [beq_eq_false_iff_ne.2 h1, beq_eq_false_iff_ne.2 h2]; rfl
theorem lsB_eq {a b : List Int} {k : Nat} (h1 : b.getD k 0 = a.getD k 0) : lsB a b k = true := by unfold lsB; rw [beq_iff_eq.2 h1, Bool.or_true]
theorem lsB_ne {a b : List Int} {k : Nat} (h : a.getD k 0 = 1 ∨ a.getD k 0 = 2) (h1 : b.getD k 0 ≠ a.getD k 0) : lsB a b k = false := by
  unfold lsB; rw [beq_eq_false_iff_ne.2 h1, Bool.or_false]
  rcases h with h | h
  · rw [beq_iff_eq.2 h]; rfl
  · rw [beq_iff_eq.2 h, Bool.or_true]; rfl

theorem meetF_eq {a b : List Int} {k : Nat} (h : a.getD k 0 = b.getD k 0) : meetF a b k = a.getD k 0 := by unfold meetF; rw [if_pos h]
theorem meetF_ne {a b : List Int} {k : Nat} (h : a.getD k 0 ≠ b.getD k 0) : meetF a b k = 3 := by unfold meetF; rw [if_neg h]

set_option maxHeartbeats 1000000 in
theorem lMeetb_any (A B : Option Addr) (a b : List Int) (ca cb : Nat) (w : World) (ha : RI w A a) (hb : RI w B b) (hla : a.length ≤ 100000) (hlb : b.length ≤ 100000) (hlt0 : b.length < a.length) :
    Calls Tryd.prog 36 #[.slice A a.length ca, .slice B b.length cb] w (RetI (meetL a b) w) := by
  have Hm := Lib.hid (show min a.length b.length = b.length by omega)
  have hmo : b.length ≤ a.length := by omega
  go_enter Tryd.func36, Tryd.ntmps36
  go_wp2_with fail
  go_loopw [5, 7, 13] (fun v _ i wr => ∃ (k : Nat), k ≤ b.length ∧ i = .int .i64 k ∧ OwnI wr w.heap.size v (lst k (meetF a b)) ∧ Below w.heap.size w wr) (fun _ _ i _ => b.length - (intOf i).toNat)
  case atStart => exact ⟨0, Nat.zero_le _, rfl, OwnI.nil _ _, Below.refl _ _⟩
  case round =>
    obtain ⟨k, hk, rfl, hown, hbl⟩ := hrel
    have Hown := Lib.hid hown; clear hown
    by_cases hlt : k < b.length
    case neg =>
      obtain rfl : k = b.length := by omega
      go_wp2_with fail
      go_ret
      exact RetI.mk (by unfold meetL; rw [Hm.out]; exact Hown.out) hbl
    case pos =>
    have hltm : k < a.length := by omega
    have hla' : (k : Int) < (a.length : Int) := by omega
    have hlb' : (k : Int) < (b.length : Int) := by omega
    obtain ⟨g, o, rfl, hc⟩ := (ha.below hbl).at_ (k := k) (by omega)
    obtain ⟨g', o', rfl, hc'⟩ := (hb.below hbl).at_ (k := k) (by omega)
    have hkl : (lst k (meetF a b)).length ≤ 1000000 := by have h1 := hla; have h2 := hlb; rw [lst_length]; omega
    have hga : a.getD k 0 = a[k] := by simp [List.getD, show k < a.length by omega]
    have hgb : b.getD k 0 = b[k] := by simp [List.getD, show k < b.length by omega]
    obtain ⟨x, hx⟩ : ∃ x, a[k] = x := ⟨_, rfl⟩
    obtain ⟨y, hy⟩ : ∃ y, b[k] = y := ⟨_, rfl⟩
    rw [hx] at hc hga
    rw [hy] at hc' hgb
    have hm0 : meetF a b k = if x = y then x else 3 := by unfold meetF; rw [hga, hgb]
    have Hm0 := Lib.hid hm0
    clear hga hgb hm0 hx hy
    by_cases e : x = y
    · subst e
      have H := Lib.hid (show meetF a b k = x by rw [Hm0.out, if_pos rfl])
      go_wp2_with (at_builtin; refine wpList_appI (by rfl) _ _ (by rfl) wr w.heap.size _ _ x Hown.out (by rfl) (by rfl) hkl hbl.size ?_; intro v' w3 hown' hb3 _)
      go_roundw
      case rel => exact ⟨k + 1, by omega, by go_num, by rw [lst_succ, H.out]; exact hown', hbl.trans hb3⟩
      case measure => simp [intOf]; omega
    · have H := Lib.hid (show meetF a b k = 3 by rw [Hm0.out, if_neg e])
      have d : (y != x) = true := by simpa using fun h => e h.symm
      clear e
      go_wp2_with (at_builtin; refine wpList_appI (by rfl) _ _ (by rfl) wr w.heap.size _ _ 3 Hown.out (by rfl) (by rfl) hkl hbl.size ?_; intro v' w3 hown' hb3 _)
      go_roundw
      case rel => exact ⟨k + 1, by omega, by go_num, by rw [lst_succ, H.out]; exact hown', hbl.trans hb3⟩
      case measure => simp [intOf]; omega
set_option maxHeartbeats 1000000 in
theorem lMeeta_any (A B : Option Addr) (a b : List Int) (ca cb : Nat) (w : World) (ha : RI w A a) (hb : RI w B b) (hla : a.length ≤ 100000) (hlb : b.length ≤ 100000) (hlt0 : ¬ b.length < a.length) :
    Calls Tryd.prog 36 #[.slice A a.length ca, .slice B b.length cb] w (RetI (meetL a b) w) := by
  have Hm := Lib.hid (show min a.length b.length = a.length by omega)
  have hmo : a.length ≤ b.length := by omega
  go_enter Tryd.func36, Tryd.ntmps36
  go_wp2_with fail
  go_loopw [5, 7, 13] (fun v _ i wr => ∃ (k : Nat), k ≤ a.length ∧ i = .int .i64 k ∧ OwnI wr w.heap.size v (lst k (meetF a b)) ∧ Below w.heap.size w wr) (fun _ _ i _ => a.length - (intOf i).toNat)
  case atStart => exact ⟨0, Nat.zero_le _, rfl, OwnI.nil _ _, Below.refl _ _⟩
  case round =>
    obtain ⟨k, hk, rfl, hown, hbl⟩ := hrel
    have Hown := Lib.hid hown; clear hown
    by_cases hlt : k < a.length
    case neg =>
      obtain rfl : k = a.length := by omega
      go_wp2_with fail
      go_ret
      exact RetI.mk (by unfold meetL; rw [Hm.out]; exact Hown.out) hbl
    case pos =>
    have hltm : k < b.length := by omega
    have hla' : (k : Int) < (a.length : Int) := by omega
    have hlb' : (k : Int) < (b.length : Int) := by omega
    obtain ⟨g, o, rfl, hc⟩ := (ha.below hbl).at_ (k := k) (by omega)
    obtain ⟨g', o', rfl, hc'⟩ := (hb.below hbl).at_ (k := k) (by omega)
    have hkl : (lst k (meetF a b)).length ≤ 1000000 := by have h1 := hla; have h2 := hlb; rw [lst_length]; omega
    have hga : a.getD k 0 = a[k] := by simp [List.getD, show k < a.length by omega]
    have hgb : b.getD k 0 = b[k] := by simp [List.getD, show k < b.length by omega]
    obtain ⟨x, hx⟩ : ∃ x, a[k] = x := ⟨_, rfl⟩
    obtain ⟨y, hy⟩ : ∃ y, b[k] = y := ⟨_, rfl⟩
    rw [hx] at hc hga
    rw [hy] at hc' hgb
    have hm0 : meetF a b k = if x = y then x else 3 := by unfold meetF; rw [hga, hgb]
    have Hm0 := Lib.hid hm0
    clear hga hgb hm0 hx hy
    by_cases e : x = y
    · subst e
      have H := Lib.hid (show meetF a b k = x by rw [Hm0.out, if_pos rfl])
      go_wp2_with (at_builtin; refine wpList_appI (by rfl) _ _ (by rfl) wr w.heap.size _ _ x Hown.out (by rfl) (by rfl) hkl hbl.size ?_; intro v' w3 hown' hb3 _)
      go_roundw
      case rel => exact ⟨k + 1, by omega, by go_num, by rw [lst_succ, H.out]; exact hown', hbl.trans hb3⟩
      case measure => simp [intOf]; omega
    · have H := Lib.hid (show meetF a b k = 3 by rw [Hm0.out, if_neg e])
      have d : (y != x) = true := by simpa using fun h => e h.symm
      clear e
      go_wp2_with (at_builtin; refine wpList_appI (by rfl) _ _ (by rfl) wr w.heap.size _ _ 3 Hown.out (by rfl) (by rfl) hkl hbl.size ?_; intro v' w3 hown' hb3 _)
      go_roundw
      case rel => exact ⟨k + 1, by omega, by go_num, by rw [lst_succ, H.out]; exact hown', hbl.trans hb3⟩
      case measure => simp [intOf]; omega
theorem lMeet_any (A B : Option Addr) (a b : List Int) (ca cb : Nat) (w : World) (ha : RI w A a) (hb : RI w B b) (hla : a.length ≤ 100000) (hlb : b.length ≤ 100000) :
    Calls Tryd.prog 36 #[.slice A a.length ca, .slice B b.length cb] w (RetI (meetL a b) w) := by
  by_cases h : b.length < a.length
  · exact lMeetb_any A B a b ca cb w ha hb hla hlb h
  · exact lMeeta_any A B a b ca cb w ha hb hla hlb h

/-- the three ways to go on -/
def ext3 (x : List Int) : List (List Int) := [x ++ [1], x ++ [2], x ++ [3]]
theorem ext3_take (x : List Int) {t : Nat} (h : t < 3) : (ext3 x).take (t + 1) = (ext3 x).take t ++ [x ++ [1 + (t : Int)]] := by
  match t, h with
  | 0, _ => rfl
  | 1, _ => rfl
  | 2, _ => rfl
theorem ext3_all {ls : List (List Int)} {q : Nat} (h : q < ls.length) : (ls.take (q + 1)).flatMap ext3 = (ls.take q).flatMap ext3 ++ (ext3 ls[q]).take 3 := by
  rw [List.take_succ_eq_append_getElem h, List.flatMap_append]
  simp [ext3]
theorem ext3_len (ls : List (List Int)) : (ls.flatMap ext3).length = 3 * ls.length := by
  induction ls with
  | nil => rfl
  | cons x l ih => rw [List.flatMap_cons, List.length_append, ih, List.length_cons]; simp [ext3]; omega
theorem labs_small {n : Nat} (h : n ≤ 8) : (labsL n).length ≤ 10000 := by
  rw [labsL_length]
  have : 3 ^ n ≤ 3 ^ 8 := Nat.pow_le_pow_right (by omega) h
  omega

set_option maxRecDepth 100000 in
set_option maxHeartbeats 4000000 in
theorem r11Labellings_any (n : Nat) (w : World) (hn : n ≤ 8) :
    Calls Tryd.prog 27 #[.int .i64 (n : Int)] w (RetS (labsL n) w) := by
  go_enter Tryd.func27, Tryd.ntmps27
  go_wp2_with fail
  go_loopw [3, 4] (fun v i wr => ∃ (k : Nat) (A : Option Addr) (c : Nat), k ≤ n ∧ i = .int .i64 k ∧ v = .slice A (labsL k).length c ∧ RSo wr A (labsL k) ∧ Below w.heap.size w wr) (fun _ i _ => n - (intOf i).toNat)
  case atStart =>
    refine ⟨0, _, 1, Nat.zero_le _, rfl, rfl, fun k hk => ?_, newB _ _⟩
    have hk0 : k = 0 := by simp [labsL] at hk; omega
    subst hk0
    exact ⟨_, 0, none, 0, rfl, new_cell w _ _ 0 _ rfl, OwnI.nil _ _, RI.nil _ _⟩
  case round =>
    obtain ⟨k, A, c, hk, rfl, rfl, hrs, hbl⟩ := hrel
    by_cases hlt : k < n
    case neg =>
      obtain rfl : k = n := by omega
      go_wp2_with fail
      go_ret
      exact ⟨A, c, rfl, hrs, hbl⟩
    case pos =>
    have hlt' : (k : Int) < (n : Int) := by omega
    have hls := labs_small (n := k) (by omega)
    have hel : ∀ q (h : q < (labsL k).length), ((labsL k)[q]).length ≤ 8 := fun q h => by
      have := (labB_iff.1 ((mem_labs k _).1 (List.getElem_mem h))).1
      omega
    have hnx : labsL (k + 1) = (labsL k).flatMap ext3 := rfl
    have Hnx := Lib.hid hnx; have Hel := Lib.hid hel
    clear hnx hel
    generalize labsL k = ls at *
    obtain ⟨wo, hwo⟩ : ∃ wo, wo = wr := ⟨_, rfl⟩
    subst hwo
    go_wp2_with fail
    go_loopw [5, 6] (fun v i wr => ∃ (q : Nat) (xs : List Value), q ≤ ls.length ∧ i = .int .i64 q ∧ OwnS wr wo.heap.size v xs ∧ OwnL wr wo.heap.size xs ((ls.take q).flatMap ext3) ∧ Below wo.heap.size wo wr) (fun _ i _ => ls.length - (intOf i).toNat)
    case atStart => exact ⟨0, [], Nat.zero_le _, rfl, OwnS.nil _ _, OwnL.nil _ _, Below.refl _ _⟩
    case round =>
      obtain ⟨q, xs, hq, rfl, hown, hol, hbi⟩ := hrel
      by_cases hql : q < ls.length
      case neg =>
        obtain rfl : q = ls.length := by omega
        rw [List.take_length, ← Hnx.out] at hol
        obtain ⟨A2, c2, rfl, hrs2⟩ := hown.forms hol
        have Hrs2 := Lib.hid hrs2
        clear hown hol hrs2
        go_wp2_with fail
        go_roundw
        case rel => exact ⟨k + 1, A2, c2, by omega, by go_num, rfl, Hrs2.out, hbl.trans (hbi.mono hbl.size)⟩
        case measure => simp [intOf]; omega
      case pos =>
      have hql' : (q : Int) < (ls.length : Int) := by omega
      have Hown := Lib.hid hown; have Hol := Lib.hid hol
      clear hown hol
      obtain ⟨wm, hwm⟩ : ∃ wm, wm = wr := ⟨_, rfl⟩
      subst hwm
      go_wp2_with fail
      go_loopw [5, 7] (fun v i wr => ∃ (t : Nat) (xs : List Value), t ≤ 3 ∧ i = .int .i64 (1 + (t : Int)) ∧ OwnS wr wo.heap.size v xs ∧ OwnL wr wo.heap.size xs ((ls.take q).flatMap ext3 ++ (ext3 ls[q]).take t) ∧ Below wo.heap.size wo wr) (fun _ i _ => 4 - (intOf i).toNat)
      case atStart => exact ⟨0, xs, by omega, rfl, Hown.out, by rw [List.take_zero, List.append_nil]; exact Hol.out, hbi⟩
      case round =>
        clear hbi Hown Hol
        obtain ⟨t, ys, ht, rfl, hown, hol, hbi⟩ := hrel
        have Hown := Lib.hid hown; have Hol := Lib.hid hol
        clear hown hol
        by_cases ht3 : t < 3
        case neg =>
          obtain rfl : t = 3 := by omega
          go_wp2_with fail
          go_roundw
          case rel => exact ⟨q + 1, ys, by omega, by go_num, Hown.out, by rw [ext3_all hql]; exact Hol.out, hbi⟩
          case measure => simp [intOf]; omega
        case pos =>
        have ht3' : (1 : Int) + (t : Int) ≤ 3 := by omega
        obtain ⟨b, o, A', c', hA, hcell, hown', hri⟩ := (hrs.below hbi) q hql
        subst hA
        have hnn : A' = none → ls[q] = [] ∧ c' = 0 := fun e => by
          subst e
          obtain ⟨A9, c9, e9, _, h9⟩ := hown'.form2
          injection e9 with e1 e2 e3
          subst e1 e3
          exact h9 rfl
        have hl8 := Hel.out q hql
        have hyl : ys.length ≤ 1000000 := by
          have h1 := Hol.out.1
          have h2 := ext3_len (ls.take q)
          have h3 := List.length_take_le' q ls
          have h4 := List.length_take_le t (ext3 ls[q])
          rw [List.length_append, h2] at h1
          omega
        have Hyl := Lib.hid hyl; have Hnn := Lib.hid hnn; have Ho' := Lib.hid hown'
        have e8 : (ls[q] ++ [1 + (t : Int)]).length = ls[q].length + 1 := by simp
        have E8 := Lib.hid e8; clear e8
        have hcell2 : (wr.alloc (.cells #[] 3)).cell? ⟨b, o + q, none⟩ = some (.slice A' ls[q].length c') := ((newB wr _).cell (lt_of_cell hcell)).trans hcell
        clear hyl hnn hown'
        go_wp2_with (first
          | (at_builtin; refine wpList_appIs (by rfl) (.tmp 25) (.tmp 29) (by rfl) (wr.alloc (.cells #[] 3)) wr.heap.size _ [] A' ls[q] c' (own_empty wr) (hri.below (newB _ _)) Hnn.out (by rfl) (by rfl) (by simp; omega) (by simp) ?_; intro v7 w7 ho7 hb7 hg7; simp only [List.nil_append] at ho7; have hb7' : Below wr.heap.size wr w7 := ((Below.refl _ _).alloc (Nat.le_refl _) _).trans hb7; have Ho7 := Lib.hid ho7; clear hb7 hg7 ho7)
          | (at_builtin; refine wpList_appI (by rfl) (.tmp 30) (.tmp 32) (by rfl) w7 wr.heap.size v7 ls[q] (1 + (t : Int)) Ho7.out (by rfl) (by rfl) (by omega) hb7'.size ?_; intro v8 w8 ho8 hb8 hg8; (obtain ⟨A8, c8, rfl, hri8, _⟩ := OwnI.form ho8); have hb8' : Below wr.heap.size wr w8 := hb7'.trans hb8; have hown8 : OwnS w8 wo.heap.size _ ys := ownsRow_below Hown.out hb8'; have hol8 := Hol.out.below hb8'; have hbb : Below wo.heap.size wo w8 := hbi.trans (hb8'.mono hbi.size); have Hown8 := Lib.hid hown8; have Ho8 := Lib.hid ho8; clear ho8 hown8 hb8 hg8)
          | (at_builtin; refine wpList_appS (by rfl) (.tmp 24) (.tmp 34) (by rfl) w8 wo.heap.size _ ys A8 (ls[q].length + 1) c8 Hown8.out (by rfl) (by rfl) Hyl.out hbb.size ?_; intro v' w9 hown9 hb9 hg9))
        go_roundw
        case rel =>
          refine ⟨t + 1, _, by omega, by go_num, hown9, ?_, hbb.trans hb9⟩
          rw [ext3_take _ ht3, ← List.append_assoc]
          have hs := (hol8.append Hown8.out hg9).snoc (OwnI.mono (World.ownsRow.kept Ho8.out hg9 (Ho8.out.apart Hown8.out)) hbi.size)
          rw [E8.out] at hs
          exact hs
        case measure => simp [intOf]; omega
end Go.Proofs.YtajocnhebfpjaaaDoor
