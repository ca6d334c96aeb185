/- keep.Lists; law14: pairs, awake. -/
import Derived.Test.YtajocnhebfpjaaaDoorRn14
namespace Go.Proofs.YtajocnhebfpjaaaDoor
open Go.ChangeShapes Go.WideShapes Go.ChangeAt Go.RowKit

/-- two lists of lists are equal -/
def eqLs (a b : List (List Int)) : Bool := a == b
theorem eqLs_iff (a b : List (List Int)) : eqLs a b = true ↔ a = b := by simp [eqLs]
theorem eqLs_len {a b : List (List Int)} (h : a.length ≠ b.length) : eqLs a b = false := by
  cases hb : eqLs a b
  · rfl
  · rw [eqLs_iff] at hb; exact absurd (congrArg List.length hb) h
theorem RSo.rs {w : World} {A : Option Addr} {ls : List (List Int)} (h : RSo w A ls) : RS w A ls := fun k hk => by
  obtain ⟨b, o, A', c', hA, hc, _, hr⟩ := h k hk
  have e : ls.getD k [] = ls[k] := by simp [List.getD, hk]
  exact ⟨b, o, A', c', hA, by rw [e]; exact hc, by rw [e]; exact hr⟩

set_option maxHeartbeats 1000000 in
theorem lists_any (A B : Option Addr) (a b : List (List Int)) (ca cb : Nat) (w : World) (_hn : a.length ≤ 100000) (hm : b.length ≤ 100000) (hal : ∀ x ∈ a, x.length ≤ 100000) (hbl' : ∀ x ∈ b, x.length ≤ 100000) (ha : RS w A a) (hb : RS w B b) :
    Calls Tryd.prog 22 #[.slice A a.length ca, .slice B b.length cb] w (RetB (.bool (eqLs a b)) w) := by
  by_cases hl : a.length = b.length
  case neg =>
    have h1 : ((a.length : Int) != b.length) = true := by rw [bne_iff_ne]; omega
    have Hl := Lib.hid hl; clear hl
    go_enter Tryd.func22, Tryd.ntmps22
    go_wp2_with fail
    go_ret
    exact ⟨rb (eqLs_len Hl.out).symm, Below.refl _ _⟩
  case pos =>
  have h1 : ((a.length : Int) != b.length) = false := by rw [bne_eq_false_iff_eq]; omega
  have hle : a.length ≤ b.length := by omega
  have Hl := Lib.hid hl; clear hl
  go_enter Tryd.func22, Tryd.ntmps22
  go_wp2_with fail
  go_loopw [13] (fun j wr => ∃ k : Nat, k ≤ a.length ∧ j = .int .i64 k ∧ a.take k = b.take k ∧ Below w.heap.size w wr) (fun j _ => a.length - (intOf j).toNat)
  case atStart => exact ⟨0, Nat.zero_le _, rfl, by simp, Below.refl _ _⟩
  case round =>
    obtain ⟨k, hk, rfl, hgood, hbl⟩ := hrel
    have Hgood := Lib.hid hgood
    clear hgood
    by_cases hkl : k < a.length
    case neg =>
      have H := Lib.hid (show eqLs a b = true by
        rw [eqLs_iff]
        have := Hgood.out
        rwa [List.take_of_length_le (by omega), List.take_of_length_le (by have := Hl.out; omega)] at this)
      go_wp2_with fail
      go_ret
      exact ⟨rb H.out.symm, hbl⟩
    case pos =>
    have hkb : k < b.length := by omega
    obtain ⟨b1, o1, A1, c1, rfl, hc1, hr1⟩ := (ha.below hbl).at_ hkl
    obtain ⟨b2, o2, A2, c2, rfl, hc2, hr2⟩ := (hb.below hbl).at_ hkb
    have hl1 := hal _ (List.getElem_mem hkl)
    have hl2 := hbl' _ (List.getElem_mem hkb)
    have hk0 : (0 : Int) ≤ (k : Int) := by omega
    have hka' : (k : Int) < (a.length : Int) := by omega
    have hkb' : (k : Int) < (b.length : Int) := by omega
    have hyes : a[k] = b[k] → a.take (k + 1) = b.take (k + 1) := fun h => by rw [List.take_succ_eq_append_getElem hkl, List.take_succ_eq_append_getElem hkb, Hgood.out, h]
    have hno : a[k] ≠ b[k] → eqLs a b = false := fun h => by
      cases hb : eqLs a b
      · rfl
      · rw [eqLs_iff] at hb; subst hb; exact absurd rfl h
    obtain ⟨x, hx⟩ : ∃ x, a[k] = x := ⟨_, rfl⟩
    obtain ⟨y, hy⟩ : ∃ y, b[k] = y := ⟨_, rfl⟩
    rw [hx] at hc1 hr1 hl1 hyes hno
    rw [hy] at hc2 hr2 hl2 hyes hno
    obtain ⟨q, hq⟩ : ∃ q, eqB x y = q := ⟨_, rfl⟩
    have Hq := Lib.hid hq; have Hyes := Lib.hid hyes; have Hno := Lib.hid hno
    clear hq hyes hno hx hy
    obtain ⟨W0, hW0⟩ : ∃ W0, W0 = wr := ⟨_, rfl⟩
    subst hW0
    go_wp2_with fail
    refine wp_region_text (S := fun w' => Below W0.heap.size W0 w') (by kernel_rfl) (by kernel_rfl) (Below.refl _ _).drew ?_
    repeat (first
      | (refine TxtL.skip (by rfl) ?_; simp only [Act.put, List.setIfInBounds_toArray, List.set_cons_zero, List.set_cons_succ])
      | (refine TxtL.take' (by rfl) ?_; apply Exists.intro; refine ⟨fun w1 hS1 => ?_, ?_⟩; (focus ((have g0 := (hS1.cell (lt_of_cell hc1)).trans hc1); (have g1 := (hS1.cell (lt_of_cell hc2)).trans hc2); go_simp; with_reducible rfl)); simp only [Act.put, List.setIfInBounds_toArray, List.set_cons_zero, List.set_cons_succ])
      | (refine TxtL.call' (by rfl) ?_; apply Exists.intro; apply Exists.intro; refine ⟨fun w1 hS1 => ?_, ?_⟩; (focus (go_simp; first | with_reducible rfl | exact ⟨rfl, rfl⟩)); apply Exists.intro; refine ⟨fun w1 hS1 => ?_, ?_⟩; (focus ((have g0 := (hS1.cell (lt_of_cell hc1)).trans hc1); (have g1 := (hS1.cell (lt_of_cell hc2)).trans hc2); first | (refine (ints_any A1 A2 x y c1 c2 w1 (by omega) (by omega) (hr1.below hS1) (hr2.below hS1)).mono ?_; rintro e w' ⟨rfl, nd, rfl⟩; exact ⟨by rw [Hq.out], below_drewN hS1 nd⟩))); simp only [Act.put, List.setIfInBounds_toArray, List.set_cons_zero, List.set_cons_succ]))
    refine TxtL.nil (fun w1 hS1 => ?_)
    have hbw := endB hbl hS1
    cases q
    · have H := Lib.hid (Hno.out fun h => by have := Hq.out; rw [h] at this; simp [eqB] at this)
      go_wp2_with fail
      go_ret
      exact ⟨rb H.out.symm, hbw⟩
    · have H := Lib.hid (Hyes.out ((eqB_iff _ _).1 Hq.out))
      go_wp2_with fail
      go_roundw
      case rel => exact ⟨k + 1, by omega, by go_num, H.out, hbw⟩
      case measure => simp [intOf]; omega
theorem new_pair4 (w : World) (x y z u : Value) (t : TypeId) : ∀ j v, [x, y, z, u][j]? = some v → (w.alloc (.cells #[x, y, z, u] t)).cell? ((⟨w.heap.size, 0, none⟩ : Addr).add j) = some v := by
  intro j v hj
  have hb := Blk.new w t #[x, y, z, u]
  match j, hj with
  | 0, hj => simp at hj; subst hj; have := hb.cell 0; simp [Addr.add, this]
  | 1, hj => simp at hj; subst hj; have := hb.cell 1; simp [Addr.add, this]
  | 2, hj => simp at hj; subst hj; have := hb.cell 2; simp [Addr.add, this]
  | 3, hj => simp at hj; subst hj; have := hb.cell 3; simp [Addr.add, this]
/-- 'out = append(out, api.Pair{..}, api.Pair{..})' -/
theorem wpList_appP4 {ops : Array Oper} {rest : List Oper} {o : Oper} {a : Act} {Q : Exit → Act → World → Prop} (hgd : o.guard = none) (s x : Operand)
    (ho : o.op = .call { callee := .builtin .append, args := #[s, x], argTypes := #[22, 22] })
    (X : World) (base : Nat) (v : Value) (l : List (Int × Int)) (y z y2 z2 : Int) (hown : OwnP X base v l) (hs : a.eval s = v) {gx : Nat} (hx : a.eval x = .slice (some ⟨gx, 0, none⟩) 2 2) (hgx : gx = X.heap.size)
    (hlen : l.length ≤ 1000000) (hbase : base ≤ X.heap.size)
    (h : ∀ v' w', OwnP w' base v' (l ++ [(y, z), (y2, z2)]) → Below base X w' → X.grownBy w' v.ownBlock → wpList Tryd.prog ops Q rest (a.put o.dst v') w') :
    wpList Tryd.prog ops Q (o :: rest) a (X.alloc (.cells #[.int .i64 y, .int .i64 z, .int .i64 y2, .int .i64 z2] 39)) := by
  subst hgx
  obtain ⟨i0, hi, hz0, hz1, hz2⟩ := info_parts info_pair
  refine wpList_append_own _ hgd s x 22 ho base 39 i0 _ 2 16 Tryd.underlying22 hi hz0 hz1 hz2 rfl (by decide) v l.length _ hs (World.ownsRow.alloc hown _) ⟨X.heap.size, 0, none⟩ 2 2 [.int .i64 y, .int .i64 z, .int .i64 y2, .int .i64 z2] hx rfl (new_pair4 _ _ _ _ _ _)
    (by intro u hu; simp at hu; rcases hu with rfl | rfl | rfl | rfl <;> rfl) (by unfold maxLen; omega) (by omega) (by simp; omega) ?_
  intro v' w1 hown' hgrow _
  refine h v' w1 ?_ ?_ ?_
  · unfold OwnP; rw [List.length_append]; simp only [flatP, List.flatMap_append]; exact hown'
  · exact ((Below.refl base X).alloc hbase _).grown hgrow (by simp; omega) (fun k hk => ((World.ownsRow.alloc hown (.cells #[.int .i64 y, .int .i64 z, .int .i64 y2, .int .i64 z2] 39)).lt k hk).1)
  · exact ⟨hgrow.os, hgrow.tape, hgrow.output, Nat.le_trans (by simp) hgrow.size, fun k hk hne => (hgrow.block k (by simp; omega) hne).trans (Below.heap_alloc _ _ _ hk)⟩
theorem prL_more (k : Nat) : prL (k + 1) = prL k ++ [(2 * (k : Int), 2 * (k : Int) + 1), (2 * (k : Int) + 1, 2 * (k : Int))] := by
  unfold prL
  rw [List.range_succ, List.flatMap_append]
  simp

set_option maxRecDepth 100000 in
set_option maxHeartbeats 4000000 in
theorem pairs_any (n : Nat) (hn : n ≤ 20) (w : World) : Calls Tryd.prog 26 #[.int .i64 (n : Int)] w (RetGN (2 * n : Nat) (prL n) w) := by
  go_enter Tryd.func26, Tryd.ntmps26
  go_wp2_with fail
  obtain ⟨W0, hW, kr, kg, hb0, hlt0⟩ := boxed2 w 24 24 (.int .i64 0) (.slice none 0 0) (.int .i64 (2 * (n : Int))) (.slice none 0 0)
  rw [hW]
  clear hW
  obtain ⟨B, hB⟩ : ∃ B, w.heap.size + 2 = B := ⟨_, rfl⟩
  go_loopw [4] (fun j wr => ∃ (k : Nat) (v : Value), k ≤ n ∧ j = .int .i64 k ∧ OwnP wr B v (prL k) ∧ Blk wr (w.heap.size + 1) 24 #[.int .i64 (2 * (n : Int)), v] ∧ Blk wr w.heap.size 24 #[.int .i64 0, .slice none 0 0] ∧ B ≤ wr.heap.size ∧ Below w.heap.size w wr) (fun j _ => n - (intOf j).toNat)
  case atStart => exact ⟨0, _, Nat.zero_le _, rfl, OwnP.nil _ _, kg, kr, by omega, hb0⟩
  case round =>
    clear kg kr hb0 hlt0
    obtain ⟨k, v, hk, rfl, hown, kg, kr, hBw, hbw⟩ := hrel
    obtain ⟨f0, f1, f2, f3⟩ := kg.two
    obtain ⟨AV, cV, rfl, hrv, hnv⟩ := hown.form2
    have Hown := Lib.hid hown; have Hrv := Lib.hid hrv; have Hnv := Lib.hid hnv
    clear hown hrv hnv
    by_cases hkn : k < n
    case pos =>
      have hl6 : (prL k).length ≤ 1000000 := by rw [prL_length]; omega
      have hkn' : (k : Int) < (n : Int) := by omega
      have Hmore := Lib.hid (prL_more k)
      have e5 : (prL (k + 1)).length = (prL k).length + 2 := by rw [prL_length, prL_length]; omega
      have E5 := Lib.hid e5
      clear e5
      go_wp2_with (at_builtin; go_loud (refine wpList_appP4 (by rfl) _ _ (by rfl) wr B _ (prL k) (2 * (k : Int)) (2 * (k : Int) + 1) (2 * (k : Int) + 1) (2 * (k : Int)) Hown.out (by rfl) (by rfl) (by rfl) hl6 hBw ?_); intro v' w5 hown5 hb5 hg5; (rw [← Hmore.out] at hown5); (obtain ⟨A5, c5, rfl, _, _⟩ := OwnP.form2 hown5); (rw [E5.out] at hown5); (rw [E5.out]); have kg5 := kg.append Hown.out hg5 (by omega); (obtain ⟨b0, b1, b2, b3⟩ := kg5.two); have Hown5 := Lib.hid hown5; clear hown5)
      go_roundw
      case rel =>
        refine ⟨k + 1, .slice A5 ((prL k).length + 2) c5, by omega, by go_num, ownsRow_setCell_below Hown5.out (a := ⟨w.heap.size + 1, 1, none⟩) (by show w.heap.size + 1 < B; omega) _, kg5.set_ 1 (.slice A5 ((prL k).length + 2) c5), (kr.append Hown.out hg5 (by omega)).far (p := ⟨w.heap.size + 1, 1, none⟩) (by show w.heap.size ≠ w.heap.size + 1; omega) _, by simp [World.setCell]; exact Nat.le_trans hBw hb5.size, (hbw.trans (hb5.mono (by omega))).setCell (p := ⟨w.heap.size + 1, 1, none⟩) (Nat.le_succ _) _⟩
      case measure => simp [intOf]; omega
    case neg =>
    obtain rfl : k = n := by omega
    obtain ⟨r0, r1, r2, r3⟩ := kr.two
    have hend1 := (kr.set_ 0 (.int .i64 (2 * (k : Int)))).set_ 1 (.slice AV (prL k).length cV)
    have hend2 := (hbw.setCell (p := ⟨w.heap.size, 0, none⟩) (Nat.le_refl _) (.int .i64 (2 * (k : Int)))).setCell (p := ⟨w.heap.size, 1, none⟩) (Nat.le_refl _) (.slice AV (prL k).length cV)
    have hloc : ∀ b o, AV = some ⟨b, o, none⟩ → B ≤ b := fun b o h => by subst h; exact (World.ownsRow.lt Hown.out b rfl).1
    have hrp := Hrv.out.far2 (g := w.heap.size) (fun b o h _ => by have := hloc b o h; omega) (.int .i64 (2 * (k : Int))) (.slice AV (prL k).length cV)
    have H1 := Lib.hid hend1; have H2 := Lib.hid hend2; have H3 := Lib.hid hrp; have H4 := Lib.hid hloc
    clear hend1 hend2 hrp hloc
    go_wp2_with fail
    obtain ⟨e0, e1, _, _⟩ := H1.out.two
    refine bodyPost_ret (v := .agg #[.int .i64 (2 * (k : Int)), .slice AV (prL k).length cV]) (by simp [results, Tryd.results26, go_sem] at e0 e1 ⊢; simp [e0, e1]) rfl ?_
    exact ⟨AV, cV, by rw [show ((2 * k : Nat) : Int) = 2 * (k : Int) by omega], H3.out, fun b o h => by have := H4.out b o h; omega, H2.out⟩

theorem comp_pr1 : compR ((2 * 1 : Nat) : Int) (prL 1) = ([[1, 2], [2, 1], [3, 3]], 0) := by decide +kernel
theorem nav_pr1 : navR ((2 * 1 : Nat) : Int) (prL 1) = ([[0], [1]], 0) := by decide +kernel
theorem comp_0 : compR 0 [] = ([[]], 0) := by decide +kernel
/-- numbers that have just been laid -/
theorem ri_new2 (w : World) (a b : Int) : RI (w.alloc (.cells #[.int .i64 a, .int .i64 b] 3)) (some ⟨w.heap.size, 0, none⟩) [a, b] := fun k hk => by
  have hb := Blk.new w 3 #[.int .i64 a, .int .i64 b]
  refine ⟨w.heap.size, 0, rfl, ?_⟩
  rw [hb.cell]
  match k, hk with
  | 0, _ => rfl
  | 1, _ => rfl
theorem ri_new1 (w : World) (a : Int) : RI (w.alloc (.cells #[.int .i64 a] 3)) (some ⟨w.heap.size, 0, none⟩) [a] := fun k hk => by
  have hb := Blk.new w 3 #[.int .i64 a]
  refine ⟨w.heap.size, 0, rfl, ?_⟩
  rw [hb.cell]
  match k, hk with
  | 0, _ => rfl
theorem rs_new3 (w : World) {A1 A2 A3 : Option Addr} {x y z : List Int} {c1 c2 c3 : Nat} (h1 : RI w A1 x) (h2 : RI w A2 y) (h3 : RI w A3 z) : RS (w.alloc (.cells #[.slice A1 x.length c1, .slice A2 y.length c2, .slice A3 z.length c3] 25)) (some ⟨w.heap.size, 0, none⟩) [x, y, z] := fun k hk => by
  have hb := Blk.new w 25 #[.slice A1 x.length c1, .slice A2 y.length c2, .slice A3 z.length c3]
  match k, hk with
  | 0, _ => exact ⟨w.heap.size, 0, A1, c1, rfl, by rw [hb.cell]; rfl, h1.below (newB _ _)⟩
  | 1, _ => exact ⟨w.heap.size, 0, A2, c2, rfl, by rw [hb.cell]; rfl, h2.below (newB _ _)⟩
  | 2, _ => exact ⟨w.heap.size, 0, A3, c3, rfl, by rw [hb.cell]; rfl, h3.below (newB _ _)⟩
theorem rs_new2 (w : World) {A1 A2 : Option Addr} {x y : List Int} {c1 c2 : Nat} (h1 : RI w A1 x) (h2 : RI w A2 y) : RS (w.alloc (.cells #[.slice A1 x.length c1, .slice A2 y.length c2] 25)) (some ⟨w.heap.size, 0, none⟩) [x, y] := fun k hk => by
  have hb := Blk.new w 25 #[.slice A1 x.length c1, .slice A2 y.length c2]
  match k, hk with
  | 0, _ => exact ⟨w.heap.size, 0, A1, c1, rfl, by rw [hb.cell]; rfl, h1.below (newB _ _)⟩
  | 1, _ => exact ⟨w.heap.size, 0, A2, c2, rfl, by rw [hb.cell]; rfl, h2.below (newB _ _)⟩

theorem lit3 (w : World) (a b c d e f : Int) : ∃ W, (((w.alloc (.cells #[.int .i64 a, .int .i64 b] 3)).alloc (.cells #[.int .i64 c, .int .i64 d] 3)).alloc (.cells #[.int .i64 e, .int .i64 f] 3)).alloc (.cells #[.slice (some ⟨w.heap.size, 0, none⟩) 2 2, .slice (some ⟨w.heap.size + 1, 0, none⟩) 2 2, .slice (some ⟨w.heap.size + 1 + 1, 0, none⟩) 2 2] 25) = W ∧ RS W (some ⟨w.heap.size + 1 + 1 + 1, 0, none⟩) [[a, b], [c, d], [e, f]] ∧ Below w.heap.size w W := by
  refine ⟨_, rfl, ?_, (((((Below.refl _ _).alloc (Nat.le_refl _) _).alloc (by simp) _).alloc (by simp; omega) _).alloc (by simp; omega) _)⟩
  have s1 : (w.alloc (.cells #[.int .i64 a, .int .i64 b] 3)).heap.size = w.heap.size + 1 := by simp
  have s2 : ((w.alloc (.cells #[.int .i64 a, .int .i64 b] 3)).alloc (.cells #[.int .i64 c, .int .i64 d] 3)).heap.size = w.heap.size + 1 + 1 := by simp
  have s3 : (((w.alloc (.cells #[.int .i64 a, .int .i64 b] 3)).alloc (.cells #[.int .i64 c, .int .i64 d] 3)).alloc (.cells #[.int .i64 e, .int .i64 f] 3)).heap.size = w.heap.size + 1 + 1 + 1 := by simp
  have h1 := ri_new2 w a b
  have h2 := ri_new2 (w.alloc (.cells #[.int .i64 a, .int .i64 b] 3)) c d
  have h3 := ri_new2 ((w.alloc (.cells #[.int .i64 a, .int .i64 b] 3)).alloc (.cells #[.int .i64 c, .int .i64 d] 3)) e f
  rw [s1] at h2
  rw [s2] at h3
  have := rs_new3 (c1 := 2) (c2 := 2) (c3 := 2) _ ((h1.below (newB _ _)).below (newB _ _)) (h2.below (newB _ _)) h3
  rw [s3] at this
  exact this
theorem lit2 (w : World) (a b : Int) : ∃ W, ((w.alloc (.cells #[.int .i64 a] 3)).alloc (.cells #[.int .i64 b] 3)).alloc (.cells #[.slice (some ⟨w.heap.size, 0, none⟩) 1 1, .slice (some ⟨w.heap.size + 1, 0, none⟩) 1 1] 25) = W ∧ RS W (some ⟨w.heap.size + 1 + 1, 0, none⟩) [[a], [b]] ∧ Below w.heap.size w W := by
  refine ⟨_, rfl, ?_, ((((Below.refl _ _).alloc (Nat.le_refl _) _).alloc (by simp) _).alloc (by simp; omega) _)⟩
  have s1 : (w.alloc (.cells #[.int .i64 a] 3)).heap.size = w.heap.size + 1 := by simp
  have s2 : ((w.alloc (.cells #[.int .i64 a] 3)).alloc (.cells #[.int .i64 b] 3)).heap.size = w.heap.size + 1 + 1 := by simp
  have h1 := ri_new1 w a
  have h2 := ri_new1 (w.alloc (.cells #[.int .i64 a] 3)) b
  rw [s1] at h2
  have := rs_new2 (c1 := 1) (c2 := 1) _ (h1.below (newB _ _)) h2
  rw [s2] at this
  exact this

set_option maxRecDepth 100000 in
set_option maxHeartbeats 8000000 in
theorem awake14_any (w : World) (hT : Tab w) : Calls Tryd.prog 23 #[] w (RetB (.bool true) w) := by
  have hp := fun w1 => pairs_any 1 (by omega) w1
  have hlp : (prL 1).length = 2 := rfl
  have Hp := Lib.hid hp
  clear hp
  go_enter Tryd.func23, Tryd.ntmps23
  go_wp2_with fail
  refine (Hp.out w).mono ?_
  rintro e w1 ⟨A1, c1, rfl, hr1, _, hb1⟩
  have hc1 := complete_any A1 ((2 * 1 : Nat) : Int) (prL 1) c1 w1 hr1 (by decide) (hT.below hb1)
  rw [comp_pr1] at hc1
  have Hc1 := Lib.hid hc1
  clear hc1 hr1
  go_wp2_with fail
  refine Hc1.out.mono ?_
  rintro e w2 ⟨A2, c2, rfl, hr2, _, hb2⟩
  have hb02 := endB hb1 hb2
  have Hr2 := Lib.hid hr2.rs
  clear hr2 Hc1
  go_wp2_with fail
  refine (Hp.out w2).mono ?_
  rintro e w3 ⟨A3, c3, rfl, hr3, _, hb3⟩
  have hb03 := endB hb02 hb3
  have hc3 := naive_any A3 ((2 * 1 : Nat) : Int) (prL 1) c3 w3 hr3 (by decide) (hT.below hb03)
  rw [nav_pr1] at hc3
  have Hc3 := Lib.hid hc3
  clear hc3 hr3
  go_wp2_with fail
  refine Hc3.out.mono ?_
  rintro e w4 ⟨A4, c4, rfl, hr4, _, hb4⟩
  have hb34 := endB hb3 hb4
  have hb04 := endB hb03 hb4
  have Hr4 := Lib.hid hr4.rs
  have hc5 := complete_any none 0 [] 0 w4 (RP.nil _ _) (by decide) (hT.below hb04)
  rw [comp_0] at hc5
  have Hc5 := Lib.hid hc5
  clear hc5 hr4 Hc3
  go_wp2_with fail
  refine Hc5.out.mono ?_
  rintro e w5 ⟨A5, c5, rfl, hr5, _, hb5⟩
  have hb05 := endB hb04 hb5
  obtain ⟨b5, o5, A6, c6, rfl, hcell5, _⟩ := hr5.rs.at_ (k := 0) (by decide)
  have hcell5' : w5.cell? ⟨b5, o5, none⟩ = some (.slice A6 0 c6) := hcell5
  have Hr25 := Lib.hid ((Hr2.out.below hb34).below hb5)
  have Hr45 := Lib.hid (Hr4.out.below hb5)
  clear Hc5 hr5 Hr2 Hr4 hcell5
  go_wp2_with fail
  obtain ⟨W6, hW6, hrs6, hb6⟩ := lit3 w5 1 2 2 1 3 3
  rw [hW6]
  clear hW6
  have hl1 := lists_any A2 (some ⟨w5.heap.size + 1 + 1 + 1, 0, none⟩) [[1, 2], [2, 1], [3, 3]] [[1, 2], [2, 1], [3, 3]] c2 3 W6 (by decide) (by decide) (by decide) (by decide) (Hr25.out.below hb6) hrs6
  have hl1' : Calls Tryd.prog 22 #[.slice A2 3 c2, .slice (some ⟨w5.heap.size + 1 + 1 + 1, 0, none⟩) 3 3] W6 (RetB (.bool true) W6) := hl1
  have Hl1 := Lib.hid hl1'
  clear hl1 hl1'
  refine Hl1.out.mono ?_
  rintro e w7 ⟨rfl, hb7⟩
  have hb67 := endB hb6 hb7
  have hb07 := endB hb05 hb67
  have Hr47 := Lib.hid (Hr45.out.below hb67)
  have hcell7 := (hb67.cell (lt_of_cell hcell5')).trans hcell5'
  clear hcell5' Hl1 hrs6
  go_wp2_with fail
  obtain ⟨W8, hW8, hrs8, hb8⟩ := lit2 w7 0 1
  rw [hW8]
  clear hW8
  have hl2 : Calls Tryd.prog 22 #[.slice A4 2 c4, .slice (some ⟨w7.heap.size + 1 + 1, 0, none⟩) 2 2] W8 (RetB (.bool true) W8) := lists_any A4 (some ⟨w7.heap.size + 1 + 1, 0, none⟩) [[0], [1]] [[0], [1]] c4 2 W8 (by decide) (by decide) (by decide) (by decide) (Hr47.out.below hb8) hrs8
  have Hl2 := Lib.hid hl2
  clear hl2
  refine Hl2.out.mono ?_
  rintro e w9 ⟨rfl, hb9⟩
  have hb89 := endB hb8 hb9
  have hcell9 := (hb89.cell (lt_of_cell hcell7)).trans hcell7
  clear hcell7 Hl2 hrs8
  go_wp2_with fail
  go_ret
  exact ⟨rfl, endB hb07 hb89⟩
end Go.Proofs.YtajocnhebfpjaaaDoor
