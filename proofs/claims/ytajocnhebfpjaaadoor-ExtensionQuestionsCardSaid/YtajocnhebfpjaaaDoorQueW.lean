/- law15: the walk of ExtensionQuestions. -/
import Derived.Test.YtajocnhebfpjaaaDoorHas15
namespace Go.Proofs.YtajocnhebfpjaaaDoor
open Go.ChangeShapes Go.WideShapes Go.ChangeAt Go.RowKit

theorem small_all {L : List (List Int)} {n : Int} (h : smallB L n = true) : (L.length : Int) ≤ n ∧ ∀ x ∈ L, (x.length : Int) ≤ n := by
  unfold smallB at h
  rw [Bool.and_eq_true, decide_eq_true_iff, List.all_eq_true] at h
  exact ⟨h.2, fun x hx => by have := h.1 x hx; rwa [decide_eq_true_iff] at this⟩
theorem lit7 (w : World) (a : Int) : ∃ W, w.alloc (.cells #[.int .i64 a, .int .i64 (-1), .int .i64 0, .int .i64 1, .int .i64 2, .int .i64 5, .int .i64 6] 3) = W ∧ RI W (some ⟨w.heap.size, 0, none⟩) [a, -1, 0, 1, 2, 5, 6] ∧ Below w.heap.size w W := by
  refine ⟨_, rfl, fun k hk => ⟨w.heap.size, 0, rfl, ?_⟩, newB _ _⟩
  rw [(Blk.new w 3 _).cell]
  match k, hk with
  | 0, _ => rfl
  | 1, _ => rfl
  | 2, _ => rfl
  | 3, _ => rfl
  | 4, _ => rfl
  | 5, _ => rfl
  | 6, _ => rfl
theorem lit3s (w : World) (u v x : Value) : ∃ W, w.alloc (.cells #[u, v, x] 31) = W ∧ Blk W w.heap.size 31 #[u, v, x] ∧ Below w.heap.size w W :=
  ⟨_, rfl, Blk.new _ _ _, newB _ _⟩

set_option maxRecDepth 100000 in
set_option maxHeartbeats 8000000 in
theorem que_law_any (A0 : Option Addr) (L0 : List (List Int)) (c0 : Nat) (at_ : Int) (A : Option Addr) (arg : List Int) (c : Nat) (w : World)
    (hl0 : L0.length ≤ 9223372036854775807) (hr0 : RS w A0 L0) (_h0n : A0 = none → L0 = [] ∧ c0 = 0)
    (hlc : arg.length ≤ c) (hc : c ≤ 9223372036854775807) (hr : RI w A arg) (hx : ∀ x ∈ arg, -9223372036854775808 ≤ x ∧ x ≤ 9223372036854775807) (hT : Tab w) :
    Calls Tryd.prog 10 #[.slice A0 L0.length c0, .int .i64 at_, .slice A arg.length c] w (RetB (.bool true) w) := by
  go_enter Tryd.func10, Tryd.ntmps10
  go_wp2_with fail
  refine (smallLists_any A0 L0 c0 40 w hr0 hl0).mono ?_
  rintro e w1 hret
  obtain ⟨rfl, hw1⟩ := hret
  subst hw1
  cases hsm : smallB L0 40
  case false =>
    clear hsm
    go_wp2_with fail
    go_ret
    exact ⟨rfl, Below.refl _ _⟩
  case true =>
  obtain ⟨hs1, hs2⟩ := small_all hsm
  have Hs2 := Lib.hid hs2
  clear hsm hs2
  go_wp2_with fail
  refine (new_any A arg c w hlc hc hr hx).mono ?_
  rintro e w2 ⟨p, rfl, hp, hs2, hb2⟩
  have hp2 := hs2.lt
  clear hr hx
  go_wp2_with fail
  refine (n_any p 6 w2 hs2 (by omega) (by omega)).mono ?_
  rintro e w3 ⟨n', rfl, hn0, hn6, hs3, hg3⟩
  obtain ⟨n, rfl⟩ : ∃ n : Nat, n' = n := ⟨n'.toNat, by omega⟩
  go_wp2_with fail
  refine (n_any p 4 w3 hs3 (by omega) (by omega)).mono ?_
  rintro e w4 ⟨k', rfl, hk0, hk4, hs4, hg4⟩
  obtain ⟨m, rfl⟩ : ∃ n : Nat, k' = n := ⟨k'.toNat, by omega⟩
  have hb3 := hb2.trans (below_of_grownBy hg3 hp hb2.size)
  have hb4 := hb3.trans (below_of_grownBy hg4 hp hb3.size)
  have hp4 := hs4.lt
  have hbo := hb4.size
  clear hs2 hs3 hg3 hg4 hb2 hb3
  obtain ⟨wo, hwo⟩ : ∃ wo, wo = w4 := ⟨_, rfl⟩
  subst hwo
  go_wp2_with fail
  go_loopw [9, 10] (fun v i wr => ∃ (k : Nat) (xs : List Value) (L : List (List Int)), k ≤ 3 ∧ i = .int .i64 k ∧ OwnS wr wo.heap.size v xs ∧ OwnL wr wo.heap.size xs L ∧ L.length + k ≤ 3 ∧ (∀ x ∈ L, x.length ≤ 40) ∧ SrcOk wr p ∧ Below w.heap.size w wr ∧ wo.heap.size ≤ wr.heap.size) (fun _ i _ => (intOf i).toNat)
  case atStart => exact ⟨m, [], [], by omega, rfl, OwnS.nil _ _, OwnL.nil _ _, by simp; omega, (fun x hx => by cases hx), hs4, hb4, Nat.le_refl _⟩
  case round =>
    clear hs4 hb4
    obtain ⟨k, xs, L, hk, rfl, hown, hol, hlk, hll, hs, hb, hsz⟩ := hrel
    have Hown := Lib.hid hown; have Hol := Lib.hid hol; have Hll := Lib.hid hll
    clear hown hol hll
    by_cases hkp : 0 < k
    case pos =>
      have hkp' : (0 : Int) < (k : Int) := by omega
      go_wp2_with fail
      refine (labels_any p n wr hs (by omega)).mono ?_
      rintro e w5 ⟨x, v5, rfl, ho5, hlab, hs5, hg5⟩
      obtain ⟨A5, c5, rfl, hri5, _⟩ := ho5.form
      have hxl : x.length ≤ 40 := by have := (labB_iff.1 hlab).1; omega
      have hxs : xs.length ≤ 1000000 := by have := Hol.out.1; omega
      have Hxs := Lib.hid hxs; have Ho5 := Lib.hid ho5
      have hown5 : OwnS w5 wo.heap.size _ xs := ownsRow_far Hown.out hg5 hp4
      have hol5 := Hol.out.kept hg5 hp4
      have hb5 := hb.trans (below_of_grownBy hg5 hp hb.size)
      have hsz5 : wo.heap.size ≤ w5.heap.size := Nat.le_trans hsz hg5.size
      have Hown5 := Lib.hid hown5; have Hol5 := Lib.hid hol5; have Hsz := Lib.hid hsz
      clear hlab hg5 hs hb Hown Hol hxs ho5 hown5 hol5 hri5
      go_wp2_with (at_builtin; refine wpList_appS (by rfl) (.tmp 28) (.tmp 32) (by rfl) w5 wo.heap.size _ xs A5 x.length c5 Hown5.out (by rfl) (by rfl) Hxs.out hsz5 ?_; intro v' w6 hown6 hb6 hg6)
      go_roundw
      case rel =>
        refine ⟨k - 1, _, L ++ [x], by omega, by go_num, hown6, (Hol5.out.append Hown5.out hg6).snoc (OwnI.mono (World.ownsRow.kept Ho5.out hg6 (Ho5.out.apart Hown5.out)) Hsz.out), by simp; omega, fun y hy => ?_, hs5.append Hown5.out hg6 hp4, hb5.trans (hb6.mono hbo), Nat.le_trans hsz5 hb6.size⟩
        rcases List.mem_append.1 hy with hy | hy
        · exact Hll.out y hy
        · rw [List.mem_singleton] at hy; subst hy; exact hxl
      case measure => simp [intOf]; omega
    case neg =>
    obtain ⟨A2, c2, rfl, hr2⟩ := OwnS.forms Hown.out Hol.out
    have hr2 := hr2.rs
    have hrw := hr0.below hb
    have hTr := hT.below hb
    have hL3 : L.length ≤ 3 := by omega
    clear Hown Hol hs hsz hlk
    go_wp2_with fail
    obtain ⟨W0, hW, hblk, hb0⟩ := lit3s wr (.slice A0 L0.length c0) (.slice A2 L.length c2) (.slice none 0 0)
    rw [hW]
    clear hW
    have hbW := endB hb hb0
    have hlt := hblk.lt
    have Hblk := Lib.hid hblk
    have hrw0 := hrw.below hb0
    have hr20 := hr2.below hb0
    have hT0 := hTr.below hb0
    clear hblk hrw hr2 hTr
    generalize wr.heap.size = q at *
    go_wp2_with fail
    go_loopw [38] (fun j wx => ∃ k : Nat, k ≤ 3 ∧ j = .int .i64 k ∧ Below W0.heap.size W0 wx) (fun j _ => 3 - (intOf j).toNat)
    case atStart => exact ⟨0, by omega, rfl, Below.refl _ _⟩
    case round =>
      obtain ⟨t, ht, rfl, hbl⟩ := hrel
      obtain ⟨wx, hwwx⟩ : ∃ q, q = wr := ⟨_, rfl⟩
      subst hwwx
      by_cases ht3 : t < 3
      case neg =>
        go_wp2_with fail
        refine (awake15_any wx (hT0.below hbl)).mono ?_
        rintro e w9 ⟨rfl, hb9⟩
        go_wp2_with fail
        go_ret
        exact ⟨rfl, endB hbW (endB hbl hb9)⟩
      case pos =>
      have ht3' : (t : Int) < 3 := by omega
      obtain ⟨A', L', c', e0, hrs, hl', hll'⟩ : ∃ (A' : Option Addr) (L' : List (List Int)) (c' : Nat), wx.cell? ⟨q, t, none⟩ = some (.slice A' L'.length c') ∧ RS wx A' L' ∧ L'.length ≤ 1000 ∧ ∀ x ∈ L', x.length ≤ 1000 := by
        have hb := Hblk.out.below hbl hlt
        have : t = 0 ∨ t = 1 ∨ t = 2 := by omega
        rcases this with h | h | h <;> subst h
        · exact ⟨A0, L0, c0, by rw [hb.cell]; rfl, hrw0.below hbl, by omega, fun x hx => by have := Hs2.out x hx; omega⟩
        · exact ⟨A2, L, c2, by rw [hb.cell]; rfl, hr20.below hbl, by omega, fun x hx => by have := Hll.out x hx; omega⟩
        · exact ⟨none, [], 0, by rw [hb.cell]; rfl, fun k hk => absurd hk (by simp), by simp, fun x hx => by cases hx⟩
      have Hll' := Lib.hid hll'
      clear hll'
      go_upto_region 13 with fail
      clear e0
      go_wp2_with fail
      obtain ⟨W1, hW, hri, hb1⟩ := lit7 wx at_
      rw [hW]
      clear hW
      have hrs1 := hrs.below hb1
      obtain ⟨VL, hVL⟩ : ∃ VL : List Int, [at_, -1, 0, 1, 2, 5, 6] = VL := ⟨_, rfl⟩
      have hV7 : VL.length = 7 := by rw [← hVL]; rfl
      rw [hVL] at hri
      clear hVL hrs
      have hbl1 := endB hbl hb1
      generalize wx.heap.size = u at *
      go_wp2_with fail
      go_loopw [45] (fun j wy => ∃ k : Nat, k ≤ 7 ∧ j = .int .i64 k ∧ Below W1.heap.size W1 wy) (fun j _ => 7 - (intOf j).toNat)
      case atStart => exact ⟨0, by omega, rfl, Below.refl _ _⟩
      case round =>
        obtain ⟨s, hs, rfl, hbs⟩ := hrel
        obtain ⟨wy, hwwy⟩ : ∃ q, q = wr := ⟨_, rfl⟩
        subst hwwy
        by_cases hs7 : s < 7
        case neg =>
          go_wp2_with fail
          go_roundw
          case rel => exact ⟨t + 1, by omega, by go_num, endB hbl1 hbs⟩
          case measure => simp [intOf]; omega
        case pos =>
        have hs7' : (s : Int) < 7 := by omega
        have hsl : s < VL.length := by omega
        obtain ⟨b, o, hA, hcell⟩ := (hri.below hbs) s hsl
        injection hA with hA
        injection hA with hA1 hA2 _
        subst hA1 hA2
        obtain ⟨i, hi⟩ : ∃ i, VL.getD s 0 = i := ⟨_, rfl⟩
        rw [hi] at hcell
        have hcell2 : wy.cell? ⟨u, s, none⟩ = some (.int .i64 i) := by rw [← hcell]; simp
        clear hcell hi
        have hrsy := hrs1.below hbs
        obtain ⟨b1, hb1⟩ : ∃ b1, (L'.any fun x => atB x i) = b1 := ⟨_, rfl⟩
        obtain ⟨b2, hb2⟩ : ∃ b2, (L'.all fun x => atB x i) = b2 := ⟨_, rfl⟩
        have h1 := fun w h => xSome_any A' L' c' i w h (by omega) Hll'.out
        have h2 := fun w h => r15Some_any A' L' c' i w h (by omega) Hll'.out
        have h3 := fun w h => xAll_any A' L' c' i w h (by omega) Hll'.out
        have h4 := fun w h => r15All_any A' L' c' i w h (by omega) Hll'.out
        rw [hb1] at h1 h2
        rw [hb2] at h3 h4
        have H1 := Lib.hid h1; have H2 := Lib.hid h2; have H3 := Lib.hid h3; have H4 := Lib.hid h4
        clear h1 h2 h3 h4 hb1 hb2
        have hn1 : (b1 != b1) = false := bne_self_eq_false b1
        have hn2 : (b2 != b2) = false := bne_self_eq_false b2
        go_wp2_with fail
        refine (H1.out wy hrsy).mono ?_
        rintro e w7 ⟨rfl, hb7⟩
        go_wp2_with fail
        refine (H2.out w7 (hrsy.below hb7)).mono ?_
        rintro e w8 hret
        obtain ⟨rfl, hW8⟩ := hret
        subst hW8
        go_wp2_with fail
        refine (H3.out w7 (hrsy.below hb7)).mono ?_
        rintro e w9 ⟨rfl, hb9⟩
        have hb9' := endB hb7 hb9
        go_wp2_with fail
        refine (H4.out w9 (hrsy.below hb9')).mono ?_
        rintro e w10 hret
        obtain ⟨rfl, hW10⟩ := hret
        subst hW10
        go_wp2_with fail
        go_roundw
        case rel => exact ⟨s + 1, by omega, by go_num, endB hbs hb9'⟩
        case measure => simp [intOf]; omega
end Go.Proofs.YtajocnhebfpjaaaDoor
