/- The reference's search for naive sets: maximal, choose, Naive. -/
import Derived.Test.YtajocnhebfpjaaaDoorRf14
import Derived.Test.YtajocnhebfpjaaaDoorNai2
import Derived.Test.YtajocnhebfpjaaaDoorPl14p
namespace Go.Proofs.YtajocnhebfpjaaaDoor
open Go.ChangeShapes Go.WideShapes Go.ChangeAt Go.RowKit

def ndN (n m : Nat) : List Int := nodesB n m.testBit
theorem ndL_eq {n m : Nat} (hn : n ≤ 40) (hm : m < 2 ^ n) : ndL m = ndN n m := by
  unfold ndL ndN
  exact nodesB_more (by omega) fun i hi => by
    rw [Bool.eq_false_iff]; intro h; have := has_lt hm h; omega
theorem navL_ndL {n : Nat} (hn : n ≤ 40) (l : List (Int × Int)) : (navL n l).map ndL = (navL n l).map (ndN n) := List.map_congr_left fun _ hm => ndL_eq hn (mem_navL.1 hm).lt2
/-- no node can be added -/
def maxAt (l : List (Int × Int)) (x : List Int) (i : Int) : Bool := inB x i || hasB l i i || x.any fun k => hasB l i k || hasB l k i
def maxB (n : Nat) (l : List (Int × Int)) (x : List Int) : Bool := (List.range n).all fun (i : Nat) => maxAt l x (i : Int)

set_option maxRecDepth 100000 in
set_option maxHeartbeats 8000000 in
theorem maximal_any (A : Option Addr) (n : Nat) (l : List (Int × Int)) (c : Nat) (B : Option Addr) (x : List Int) (cx : Nat) (w : World) (hr : RP w A l) (hv : Vld n l) (hx : RI w B x) (hxl : x.length ≤ 100000) :
    Calls Tryd.prog 107 #[.agg #[.int .i64 (n : Int), .slice A l.length c], .slice B x.length cx] w (RetB (.bool (maxB n l x)) w) := by
  have hn := hv.1.1
  have hlen := hv.1.2.1
  have hgl : nGl n l = l := by unfold nGl; rw [hv.valE]; rfl
  have Hgl := Lib.hid hgl
  clear hgl
  go_enter Tryd.func107, Tryd.ntmps107
  go_wp2_with fail
  obtain ⟨W0, hW, c0, c1, hb0, hlt0⟩ := boxed w 24 (.int .i64 (n : Int)) (.slice A l.length c)
  rw [hW]
  clear hW
  go_loopw [5] (fun j wr => ∃ k : Nat, k ≤ n ∧ j = .int .i64 k ∧ ((List.range k).all fun (i : Nat) => maxAt l x (i : Int)) = true ∧ Below W0.heap.size W0 wr) (fun j _ => n - (intOf j).toNat)
  case atStart => exact ⟨0, Nat.zero_le _, rfl, by simp, Below.refl _ _⟩
  case round =>
    obtain ⟨k, hk, rfl, hgood, hbl⟩ := hrel
    have Hgood := Lib.hid hgood
    clear hgood
    have e0 := (hbl.cell (lt_of_cell c0)).trans c0
    have e1 := (hbl.cell (lt_of_cell c1)).trans c1
    have hbw := endB hb0 hbl
    by_cases hkn : k < n
    case neg =>
      obtain rfl : k = n := by omega
      go_wp2_with fail
      go_ret
      exact ⟨rb Hgood.out.symm, hbw⟩
    case pos =>
    have hkn' : (k : Int) < (n : Int) := by omega
    have hnext : maxAt l x (k : Int) = true → ((List.range (k + 1)).all fun (i : Nat) => maxAt l x (i : Int)) = true := fun h => by
      rw [List.range_succ, List.all_append, Hgood.out]; simp [h]
    have hbad : maxAt l x (k : Int) = false → maxB n l x = false := fun h => by
      unfold maxB
      rw [List.all_eq_false]
      exact ⟨k, List.mem_range.2 hkn, by rw [h]; simp⟩
    have Hnext := Lib.hid hnext; have Hbad := Lib.hid hbad
    clear hnext hbad
    obtain ⟨q1, h1⟩ : ∃ q, inB x (k : Int) = q := ⟨_, rfl⟩
    obtain ⟨q2, h2⟩ : ∃ q, hasB l (k : Int) (k : Int) = q := ⟨_, rfl⟩
    have hmx : maxAt l x (k : Int) = (q1 || q2 || x.any fun k' => hasB l (k : Int) k' || hasB l k' (k : Int)) := by unfold maxAt; rw [h1, h2]
    have H1 := Lib.hid h1; have H2 := Lib.hid h2; have Hmx := Lib.hid hmx
    clear h1 h2 hmx
    have hxw := hx.below hbw
    have hrw := hr.below hbw
    have hhas : ∀ (f t : Int) (w1 : World), Below wr.heap.size wr w1 → Calls Tryd.prog 68 #[.agg #[.int .i64 (n : Int), .slice A l.length c], .int .i64 f, .int .i64 t] w1 (RetB (.bool (hasB l f t)) w1) := fun f t w1 hb => by
      have := r10Has_any A n l c f t w1 (hrw.below hb) hlen
      rw [Hgl.out] at this; exact this
    have Hhas := Lib.hid hhas
    clear hhas
    go_wp2_with fail
    refine (r11In_any B x cx (k : Int) wr (by omega) hxw).mono ?_
    rintro e w1 ⟨rfl, rfl⟩
    rw [H1.out]
    cases q1
    case true =>
      have hm := Hnext.out (by rw [Hmx.out]; rfl)
      have Hm := Lib.hid hm
      clear hm
      go_wp2_with fail
      go_roundw
      case rel => exact ⟨k + 1, by omega, by go_num, Hm.out, hbl⟩
      case measure => simp [intOf]; omega
    case false =>
    go_wp2_with fail
    refine (Hhas.out (k : Int) (k : Int) wr (Below.refl _ _)).mono ?_
    rintro e w2 ⟨rfl, hb2⟩
    rw [H2.out]
    have hbl2 := hbl.trans (hb2.mono hbl.size)
    cases q2
    case true =>
      have hm := Hnext.out (by rw [Hmx.out]; rfl)
      have Hm := Lib.hid hm
      clear hm
      go_wp2_with fail
      go_roundw
      case rel => exact ⟨k + 1, by omega, by go_num, Hm.out, hbl2⟩
      case measure => simp [intOf]; omega
    case false =>
    obtain ⟨wo, hwo⟩ : ∃ wo, wo = wr := ⟨_, rfl⟩
    subst hwo
    have g0 := (hb2.cell (lt_of_cell e0)).trans e0
    have g1 := (hb2.cell (lt_of_cell e1)).trans e1
    clear e0 e1
    go_wp2_with fail
    go_loopw [6, 7] (fun b6 j wr => ∃ t : Nat, t ≤ x.length ∧ j = .int .i64 t ∧ b6 = .bool (!((x.take t).any fun k' => hasB l (k : Int) k' || hasB l k' (k : Int))) ∧ Below w2.heap.size w2 wr) (fun _ j _ => x.length - (intOf j).toNat)
    case atStart => exact ⟨0, Nat.zero_le _, rfl, by simp, Below.refl _ _⟩
    case round =>
      obtain ⟨t, ht, rfl, rfl, hbt⟩ := hrel
      obtain ⟨kb, hkb⟩ : ∃ kb, (!((x.take t).any fun k' => hasB l (k : Int) k' || hasB l k' (k : Int))) = kb := ⟨_, rfl⟩
      rw [hkb]
      have Hkb := Lib.hid hkb
      clear hkb
      have hb2t := hb2.trans (hbt.mono hb2.size)
      have f0 := (hbt.cell (lt_of_cell g0)).trans g0
      have f1 := (hbt.cell (lt_of_cell g1)).trans g1
      by_cases htl : t < x.length
      case pos =>
        obtain ⟨b, o, rfl, hcx⟩ := (hxw.below hb2t).at_ htl
        have htl' : (t : Int) < (x.length : Int) := by omega
        have ht0 : (0 : Int) ≤ (t : Int) := by omega
        obtain ⟨y, hy⟩ : ∃ y, x[t] = y := ⟨_, rfl⟩
        rw [hy] at hcx
        have hstp : (!((x.take (t + 1)).any fun k' => hasB l (k : Int) k' || hasB l k' (k : Int))) = (kb && !hasB l (k : Int) y && !hasB l y (k : Int)) := by
          rw [List.take_succ_eq_append_getElem htl, List.any_append, Bool.not_or, Hkb.out, hy]
          simp [Bool.and_assoc]
        have Hstp := Lib.hid hstp; have Htl := Lib.hid (show t + 1 ≤ x.length ∧ x.length - (t + 1) < x.length - t by omega)
        clear hstp hy
        obtain ⟨p1, h1⟩ : ∃ q, hasB l (k : Int) y = q := ⟨_, rfl⟩
        obtain ⟨p2, h2⟩ : ∃ q, hasB l y (k : Int) = q := ⟨_, rfl⟩
        have P1 := Lib.hid h1; have P2 := Lib.hid h2
        clear h1 h2
        obtain ⟨wi, hwi⟩ : ∃ wi, wi = wr := ⟨_, rfl⟩
        subst hwi
        go_wp2_with fail
        refine wp_region_textB [8, 9, 10, 11, 18] (SB wi) (RIs []) (by kernel_rfl) (by kernel_rfl) (by kernel_rfl) (Below.refl _ _).drew (RIs.nil _) ?_
        cases kb
        case false =>
          repeat (first
            | (refine TxtBL.skip (by rfl) ?_; simp only [Act.put, List.setIfInBounds_toArray, List.set_cons_zero, List.set_cons_succ])
            | (refine TxtBL.take (by rfl) (by rfl) ?_; apply Exists.intro; refine ⟨fun w1 hS1 => ?_, ?_⟩; (focus ((have g2 := (hS1.cell (lt_of_cell f0)).trans f0); (have g3 := (hS1.cell (lt_of_cell f1)).trans f1); (have g4 := (hS1.cell (lt_of_cell hcx)).trans hcx); go_simp; with_reducible rfl)); simp only [Act.put, List.setIfInBounds_toArray, List.set_cons_zero, List.set_cons_succ])
            | (refine TxtBL.takeE (by rfl) (by rfl) ?_; apply Exists.intro; refine ⟨fun w1 hS1 => ?_, ?_⟩; (focus ((have g2 := (hS1.cell (lt_of_cell f0)).trans f0); (have g3 := (hS1.cell (lt_of_cell f1)).trans f1); (have g4 := (hS1.cell (lt_of_cell hcx)).trans hcx); go_simp; with_reducible rfl)); simp only [Act.put, List.setIfInBounds_toArray, List.set_cons_zero, List.set_cons_succ]))
          refine TxtBL.nil (fun W3 hS3 _ => ?_)
          go_wp2_with fail
          go_roundw
          case rel => exact ⟨t + 1, Htl.out.1, by go_num, by rw [Hstp.out]; rfl, hbt.trans (hS3.mono hbt.size)⟩
          case measure => simp [intOf]; omega
        case true =>
          repeat (first
            | (refine TxtBL.skip (by rfl) ?_; simp only [Act.put, List.setIfInBounds_toArray, List.set_cons_zero, List.set_cons_succ])
            | (refine TxtBL.take (by rfl) (by rfl) ?_; apply Exists.intro; refine ⟨fun w1 hS1 => ?_, ?_⟩; (focus ((have g2 := (hS1.cell (lt_of_cell f0)).trans f0); (have g3 := (hS1.cell (lt_of_cell f1)).trans f1); (have g4 := (hS1.cell (lt_of_cell hcx)).trans hcx); go_simp; with_reducible rfl)); simp only [Act.put, List.setIfInBounds_toArray, List.set_cons_zero, List.set_cons_succ])
            | (refine TxtBL.takeE (by rfl) (by rfl) ?_; apply Exists.intro; refine ⟨fun w1 hS1 => ?_, ?_⟩; (focus ((have g2 := (hS1.cell (lt_of_cell f0)).trans f0); (have g3 := (hS1.cell (lt_of_cell f1)).trans f1); (have g4 := (hS1.cell (lt_of_cell hcx)).trans hcx); go_simp; with_reducible rfl)); simp only [Act.put, List.setIfInBounds_toArray, List.set_cons_zero, List.set_cons_succ]))
          refine TxtBL.callB (by rfl) (by rfl) ?_
          apply Exists.intro; apply Exists.intro
          refine ⟨fun w1 hS1 => ?_, ?_⟩
          focus (go_simp; first | with_reducible rfl | exact ⟨rfl, rfl⟩)
          refine ⟨.bool p1, fun w1 hS1 _ => by rw [← P1.out]; exact Hhas.out _ _ w1 (hb2t.trans (hS1.mono hb2t.size)), ?_⟩
          simp only [Act.put, List.setIfInBounds_toArray, List.set_cons_zero, List.set_cons_succ]
          cases p1
          case true =>
            repeat (first
              | (refine TxtBL.skip (by rfl) ?_; simp only [Act.put, List.setIfInBounds_toArray, List.set_cons_zero, List.set_cons_succ])
              | (refine TxtBL.take (by rfl) (by rfl) ?_; apply Exists.intro; refine ⟨fun w1 hS1 => ?_, ?_⟩; (focus ((have g2 := (hS1.cell (lt_of_cell f0)).trans f0); (have g3 := (hS1.cell (lt_of_cell f1)).trans f1); (have g4 := (hS1.cell (lt_of_cell hcx)).trans hcx); go_simp; with_reducible rfl)); simp only [Act.put, List.setIfInBounds_toArray, List.set_cons_zero, List.set_cons_succ])
              | (refine TxtBL.takeE (by rfl) (by rfl) ?_; apply Exists.intro; refine ⟨fun w1 hS1 => ?_, ?_⟩; (focus ((have g2 := (hS1.cell (lt_of_cell f0)).trans f0); (have g3 := (hS1.cell (lt_of_cell f1)).trans f1); (have g4 := (hS1.cell (lt_of_cell hcx)).trans hcx); go_simp; with_reducible rfl)); simp only [Act.put, List.setIfInBounds_toArray, List.set_cons_zero, List.set_cons_succ]))
            refine TxtBL.nil (fun W3 hS3 _ => ?_)
            go_wp2_with fail
            go_roundw
            case rel => exact ⟨t + 1, Htl.out.1, by go_num, by rw [Hstp.out, P1.out]; rfl, hbt.trans (hS3.mono hbt.size)⟩
            case measure => simp [intOf]; omega
          case false =>
            repeat (first
              | (refine TxtBL.skip (by rfl) ?_; simp only [Act.put, List.setIfInBounds_toArray, List.set_cons_zero, List.set_cons_succ])
              | (refine TxtBL.take (by rfl) (by rfl) ?_; apply Exists.intro; refine ⟨fun w1 hS1 => ?_, ?_⟩; (focus ((have g2 := (hS1.cell (lt_of_cell f0)).trans f0); (have g3 := (hS1.cell (lt_of_cell f1)).trans f1); (have g4 := (hS1.cell (lt_of_cell hcx)).trans hcx); go_simp; with_reducible rfl)); simp only [Act.put, List.setIfInBounds_toArray, List.set_cons_zero, List.set_cons_succ])
              | (refine TxtBL.takeE (by rfl) (by rfl) ?_; apply Exists.intro; refine ⟨fun w1 hS1 => ?_, ?_⟩; (focus ((have g2 := (hS1.cell (lt_of_cell f0)).trans f0); (have g3 := (hS1.cell (lt_of_cell f1)).trans f1); (have g4 := (hS1.cell (lt_of_cell hcx)).trans hcx); go_simp; with_reducible rfl)); simp only [Act.put, List.setIfInBounds_toArray, List.set_cons_zero, List.set_cons_succ]))
            refine TxtBL.callB (by rfl) (by rfl) ?_
            apply Exists.intro; apply Exists.intro
            refine ⟨fun w1 hS1 => ?_, ?_⟩
            focus (go_simp; first | with_reducible rfl | exact ⟨rfl, rfl⟩)
            refine ⟨.bool p2, fun w1 hS1 _ => by rw [← P2.out]; exact Hhas.out _ _ w1 (hb2t.trans (hS1.mono hb2t.size)), ?_⟩
            simp only [Act.put, List.setIfInBounds_toArray, List.set_cons_zero, List.set_cons_succ]
            repeat (first
              | (refine TxtBL.skip (by rfl) ?_; simp only [Act.put, List.setIfInBounds_toArray, List.set_cons_zero, List.set_cons_succ])
              | (refine TxtBL.take (by rfl) (by rfl) ?_; apply Exists.intro; refine ⟨fun w1 hS1 => ?_, ?_⟩; (focus ((have g2 := (hS1.cell (lt_of_cell f0)).trans f0); (have g3 := (hS1.cell (lt_of_cell f1)).trans f1); (have g4 := (hS1.cell (lt_of_cell hcx)).trans hcx); go_simp; with_reducible rfl)); simp only [Act.put, List.setIfInBounds_toArray, List.set_cons_zero, List.set_cons_succ])
              | (refine TxtBL.takeE (by rfl) (by rfl) ?_; apply Exists.intro; refine ⟨fun w1 hS1 => ?_, ?_⟩; (focus ((have g2 := (hS1.cell (lt_of_cell f0)).trans f0); (have g3 := (hS1.cell (lt_of_cell f1)).trans f1); (have g4 := (hS1.cell (lt_of_cell hcx)).trans hcx); go_simp; with_reducible rfl)); simp only [Act.put, List.setIfInBounds_toArray, List.set_cons_zero, List.set_cons_succ]))
            refine TxtBL.nil (fun W3 hS3 _ => ?_)
            go_wp2_with fail
            go_roundw
            case rel => exact ⟨t + 1, Htl.out.1, by go_num, by rw [Hstp.out, P1.out, P2.out]; rfl, hbt.trans (hS3.mono hbt.size)⟩
            case measure => simp [intOf]; omega
      case neg =>
      have hfin : maxAt l x (k : Int) = !kb := by
        rw [Hmx.out, ← Hkb.out, List.take_of_length_le (by omega)]; simp
      have Hfin := Lib.hid hfin
      clear hfin
      cases kb
      · have Hm := Lib.hid (Hnext.out (by rw [Hfin.out]; rfl))
        go_wp2_with fail
        go_roundw
        case rel => exact ⟨k + 1, by omega, by go_num, Hm.out, hbl.trans (hb2t.mono hbl.size)⟩
        case measure => simp [intOf]; omega
      · have Hm := Lib.hid (Hbad.out (by rw [Hfin.out]; rfl))
        go_wp2_with fail
        go_ret
        exact ⟨rb Hm.out.symm, endB hbw hb2t⟩

theorem inB_ndN {n s : Nat} {i : Nat} : inB (ndN n s) (i : Int) = true ↔ i < n ∧ has s i := by
  rw [inB_iff]
  unfold ndN
  rw [mem_nodesB]
  constructor
  · rintro ⟨j, hj, hp, e⟩
    have : i = j := by omega
    subst this; exact ⟨hj, hp⟩
  · rintro ⟨h1, h2⟩; exact ⟨i, h1, h2, rfl⟩
theorem max_nav {n : Nat} {l : List (Int × Int)} {s : Nat} (hs : s < 2 ^ n) (hf : ∀ a b, has s a → has s b → ¬ att l a b) : maxB n l (ndN n s) = navB n l s := by
  rw [Bool.eq_iff_iff, navB_iff hs]
  unfold maxB
  rw [List.all_eq_true]
  have hany : ∀ j : Nat, ((ndN n s).any fun k => hasB l (j : Int) k || hasB l k (j : Int)) = true ↔ ∃ k, has s k ∧ confl l j k := fun j => by
    rw [List.any_eq_true]
    constructor
    · rintro ⟨k, hk, h⟩
      obtain ⟨q, hq, hp, rfl⟩ := mem_nodesB.1 hk
      rw [Bool.or_eq_true, hasB_iff, hasB_iff] at h
      exact ⟨q, hp, h⟩
    · rintro ⟨k, hk, h⟩
      refine ⟨(k : Int), mem_nodesB.2 ⟨k, has_lt hs hk, hk, rfl⟩, ?_⟩
      rw [Bool.or_eq_true, hasB_iff, hasB_iff]
      exact h
  constructor
  · intro h
    refine ⟨fun j hj => has_lt hs hj, hf, fun j hj hs' hn => ?_⟩
    have h1 := h j (List.mem_range.2 hj)
    unfold maxAt at h1
    rw [Bool.or_eq_true, Bool.or_eq_true, hany, inB_ndN, hasB_iff] at h1
    rcases h1 with (h1 | h1) | h1
    · exact absurd h1.2 hn
    · exact absurd h1 hs'
    · exact h1
  · intro h j hj
    rw [List.mem_range] at hj
    unfold maxAt
    rw [Bool.or_eq_true, Bool.or_eq_true, hany, inB_ndN, hasB_iff]
    rcases Classical.em (has s j) with h1 | h1
    · exact .inl (.inl ⟨hj, h1⟩)
    · rcases Classical.em (att l j j) with h2 | h2
      · exact .inl (.inr h2)
      · exact .inr (h.most j hj h2 h1)
theorem cf_nodes {n : Nat} {l : List (Int × Int)} {s : Nat} (hv : InR n l) (hs : s < 2 ^ n) : cfR n l (ndN n s) = true ↔ ∀ a b, has s a → has s b → ¬ att l a b := by
  rw [cfR_eq hv]
  unfold ndN
  rw [setB_nodes, mask_nodes hs, Bool.true_and, freeB_iff hv]

set_option maxRecDepth 100000 in
set_option maxHeartbeats 8000000 in
theorem rchoose_any (W : World) (A : Option Addr) (n : Nat) (l : List (Int × Int)) (c : Nat) (hr : RP W A l) (hv : Vld n l) (B : Nat) (hB : W.heap.size ≤ B) : ∀ (m s i : Nat) (v : Value) (xs : List Value) (F : List (List Int)) (w : World) (Bs : Option Addr) (cs : Nat),
    n - i ≤ m → i ≤ n → (∀ j, has s j → j < i) → (∀ a b, has s a → has s b → ¬ att l a b) → Below W.heap.size W w → B ≤ w.heap.size → Fou w B v xs F → F.length ≤ 201 → OwnI w 0 (.slice Bs (ndN n s).length cs) (ndN n s) →
    Calls Tryd.prog 65 #[.agg #[.int .i64 (n : Int), .slice A l.length c], v, .slice Bs (ndN n s).length cs, .int .i64 (i : Int)] w (RetEx ((navD n l s (fromN n i)).map (ndN n)) F v B w) := by
  intro m
  induction m using Nat.strongRecOn
  rename_i m ih
  intro s i v xs F w Bs cs hm hin hsi hsf hW hBw hfo hF hso
  have hn := hv.1.1
  have hlen := hv.1.2.1
  have hgl : nGl n l = l := by unfold nGl; rw [hv.valE]; rfl
  have hs2 : s < 2 ^ n := lt_of_has fun j hj => by have := hsi j hj; omega
  obtain ⟨AV, cV, rfl, _⟩ := OwnS.forms hfo.s hfo.l
  obtain ⟨x, hxd⟩ : ∃ x, ndN n s = x := ⟨_, rfl⟩
  have hxn : x.length ≤ n := by rw [← hxd]; exact nodesB_length _ _
  rw [hxd] at hso ⊢
  have Hfo := Lib.hid hfo; have Hso := Lib.hid hso; have Hsi := Lib.hid hsi; have Hsf := Lib.hid hsf; have HW := Lib.hid hW; have Hm := Lib.hid hm; have Hxd := Lib.hid hxd; have Hgl := Lib.hid hgl; have Hs2 := Lib.hid hs2
  clear hfo hso hsi hsf hW hm hxd hgl hs2
  by_cases hfull : F.length = 201
  case pos =>
    have Hend := Lib.hid (capL_full (a := (navD n l s (fromN n i)).map (ndN n)) hfull)
    have hd : decide ((200 : Int) < (F.length : Int)) = true := by rw [decide_eq_true_iff]; omega
    have hfl : (200 : Int) < (F.length : Int) := by omega
    clear hfull
    go_enter Tryd.func65, Tryd.ntmps65
    go_upto_region 1 with fail
    obtain ⟨W0, hW0, c0, c1, hb0, hlt0⟩ := boxed w 24 (.int .i64 (n : Int)) (.slice A l.length c)
    rw [hW0]
    clear hW0
    go_wp2_with fail
    go_ret
    refine ⟨AV, cV, xs, ?_, ?_, ?_, ?_⟩
    · rw [Hend.out]; rfl
    · rw [Hend.out]; exact Hfo.out.below hb0
    · exact grownBy_of_below hb0 _
    · rw [Hend.out]; exact Led.refl ..
  case neg =>
  have hd : decide ((200 : Int) < (F.length : Int)) = false := by rw [decide_eq_false_iff_not]; omega
  have hfl : ¬ (200 : Int) < (F.length : Int) := by omega
  have hlt201 : F.length < 201 := by omega
  clear hfull
  go_enter Tryd.func65, Tryd.ntmps65
  go_upto_region 1 with fail
  obtain ⟨W0, hW0, c0, c1, hb0, hlt0⟩ := boxed w 24 (.int .i64 (n : Int)) (.slice A l.length c)
  rw [hW0]
  clear hW0
  have hWW : Below W.heap.size W W0 := endB HW.out hb0
  have hso0 : OwnI W0 0 (.slice Bs x.length cs) x := OwnI.below Hso.out hb0
  have hfo0 := Hfo.out.below hb0
  have hnil : Bs = none → x = [] ∧ cs = 0 := fun e => by
    obtain ⟨A9, c9, e9, _, h9⟩ := hso0.form2
    injection e9 with e1 _ e3
    subst e1 e3
    exact h9 e
  have Hfo0 := Lib.hid hfo0; have Hso0 := Lib.hid hso0; have HWW := Lib.hid hWW; have Hnil := Lib.hid hnil
  clear hfo0 hso0 hWW hnil
  have hBW0 : B ≤ W0.heap.size := Nat.le_trans hBw hb0.size
  by_cases hie : i = n
  case pos =>
    have hde : ((i : Int) == (n : Int)) = true := by rw [hie]; simp
    have hz : fromN n i = 0 := has_ext fun j => ⟨fun h => by have := (has_fromN hn hin).1 h; omega, fun h => absurd h has_zero⟩
    have hmax := maximal_any A n l c Bs x cs W0 (hr.below HWW.out) hv (OwnI.ri Hso0.out) (by omega)
    have hmn := max_nav Hs2.out Hsf.out
    rw [Hxd.out] at hmn
    rw [hmn] at hmax
    have hleaf : (navD n l s (fromN n i)).map (ndN n) = if navB n l s = true then [x] else [] := by
      rw [hz, nav_leaf]
      by_cases h : navB n l s = true
      · rw [if_pos ⟨h, Hs2.out⟩, if_pos h, ← Hxd.out]; rfl
      · rw [if_neg (fun hh => h hh.1), if_neg h]; rfl
    have Hmax := Lib.hid hmax; have Hleaf := Lib.hid hleaf
    clear hie hz hmax hmn hleaf
    go_wp2_with fail
    refine Hmax.out.mono ?_
    rintro e w1 ⟨rfl, hb1⟩
    have hfo1 := Hfo0.out.below hb1
    have hso1 : OwnI w1 0 (.slice Bs x.length cs) x := OwnI.below Hso0.out hb1
    have hb01 := endB hb0 hb1
    have hB1 : B ≤ w1.heap.size := Nat.le_trans hBW0 hb1.size
    have hri1 := OwnI.ri hso1
    have hxl : xs.length ≤ 1000000 := by rw [hfo1.len]; omega
    have Hfo1 := Lib.hid hfo1; have Hso1 := Lib.hid hso1; have Hb01 := Lib.hid hb01
    clear hfo1 hso1 hb01
    obtain ⟨q, hq⟩ : ∃ q, navB n l s = q := ⟨_, rfl⟩
    have hle2 := Hleaf.out
    rw [hq] at hle2 ⊢
    cases q
    case false =>
      have Hend := Lib.hid (show capL 201 F ((navD n l s (fromN n i)).map (ndN n)) = F by rw [hle2]; exact capL_nil hF)
      clear hq hle2 Hleaf Hmax
      go_wp2_with fail
      go_ret
      refine ⟨AV, cV, xs, ?_, ?_, ?_, ?_⟩
      · rw [Hend.out]; rfl
      · rw [Hend.out]; exact Hfo1.out
      · exact grownBy_of_below Hb01.out _
      · rw [Hend.out]; exact Led.refl ..
    case true =>
    have Hend := Lib.hid (show capL 201 F ((navD n l s (fromN n i)).map (ndN n)) = F ++ [x] by rw [hle2]; exact capL_one hlt201)
    clear hq hle2 Hleaf Hmax
    go_wp2_with (first
      | (at_builtin; refine wpList_appIs (by rfl) (.tmp 22) (.tmp 23) (by rfl) (w1.alloc (.cells #[] 3)) w1.heap.size _ [] Bs x cs (own_empty w1) (hri1.below (newB _ _)) Hnil.out (by rfl) (by rfl) (by simp; omega) (by simp) ?_; intro v7 w7 ho7 hb7 hg7; (have hb7' : Below w1.heap.size w1 w7 := ((Below.refl _ _).alloc (Nat.le_refl _) _).trans hb7); simp only [List.nil_append] at ho7; (obtain ⟨A7, c7, rfl, _, _⟩ := OwnI.form ho7); (have hfo7 := Hfo1.out.below hb7'); (have hB7 := Nat.le_trans hB1 hb7'.size); (have ho7b : OwnI w7 B (.slice A7 x.length c7) x := OwnI.mono ho7 hB1); have Ho7 := Lib.hid ho7b; have Hfo7 := Lib.hid hfo7; have Hb7 := Lib.hid hb7'; clear ho7 hb7 hg7 hb7' hfo7 ho7b)
      | (at_builtin; refine wpList_appS2 (by rfl) (.tmp 21) (.tmp 25) (by rfl) w7 B _ xs A7 x.length c7 Hfo7.out.s (by rfl) (by rfl) (by rfl) hxl hB7 ?_; intro v8 w8 hown8 hb8 hg8 hled8; (have hol8 : OwnL w8 B (xs ++ [.slice A7 x.length c7]) (F ++ [x]) := (Hfo7.out.l.append Hfo7.out.s hg8).snoc (World.ownsRow.kept Ho7.out hg8 (Ho7.out.apart Hfo7.out.s))); (obtain ⟨A8, c8, rfl, _⟩ := OwnS.forms hown8 hol8); have Hown8 := Lib.hid hown8; have Hol8 := Lib.hid hol8; have Hg8 := Lib.hid hg8; have Hled8 := Lib.hid hled8; clear hown8 hol8 hb8 hg8 hled8))
    go_ret
    refine ⟨A8, c8, xs ++ [.slice A7 x.length c7], ?_, ?_, ?_, ?_⟩
    · rw [Hend.out]; simp
    · rw [Hend.out]; exact ⟨Hown8.out, Hol8.out⟩
    · exact grown_led (grownBy_of_below (endB Hb01.out Hb7.out) _) (Led.refl ..) Hg8.out
    · rw [Hend.out]; exact (Led.refl w _).trans (endB Hb01.out Hb7.out).size Hled8.out
  case neg =>
  have hde : ((i : Int) == (n : Int)) = false := by rw [beq_eq_false_iff_ne]; omega
  have hilt : i < n := by omega
  clear hie
  obtain ⟨s2, hs2⟩ : ∃ s2, s ||| 1 <<< i = s2 := ⟨_, rfl⟩
  have hs2i : ∀ j, has s2 j → j < i + 1 := fun j hj => by
    rw [← hs2] at hj
    rcases has_or.1 hj with h | h
    · have := Hsi.out j h; omega
    · have := has_one.1 h; omega
  have hs22 : s2 < 2 ^ n := lt_of_has fun j hj => by have := hs2i j hj; omega
  have hx2 : ndN n s2 = x ++ [(i : Int)] := by rw [← hs2, ← Hxd.out]; exact nodes_add hilt Hsi.out
  have hspl : navD n l s (fromN n i) = navD n l s2 (fromN n (i + 1)) ++ navD n l s (fromN n (i + 1)) := by
    rw [← hs2]
    exact nav_split0 ((has_fromN hn hin).2 ⟨Nat.le_refl _, hilt⟩) (fun h => by have := Hsi.out i h; omega) (fun j hj h => by have := (has_fromN hn hin).1 h; omega) fun j => by
      rw [has_fromN hn (by omega), has_fromN hn hin]; omega
  have hcfb : cfR n l (x ++ [(i : Int)]) = true ↔ ∀ a b, has s2 a → has s2 b → ¬ att l a b := by rw [← hx2]; exact cf_nodes hv.1 hs22
  have hl1 : (x ++ [(i : Int)]).length = x.length + 1 := by simp
  have hcap := OwnI.cap Hso0.out
  have hcap2 : (x.length : Int) ≤ (cs : Int) := by omega
  have hx6 : x.length ≤ 1000000 := by omega
  have hri0 := OwnI.ri Hso0.out
  have hm1 : n - (i + 1) < m := by have := Hm.out; omega
  have Hs2i := Lib.hid hs2i; have Hx2 := Lib.hid hx2; have Hspl := Lib.hid hspl; have Hcfb := Lib.hid hcfb; have Hl1 := Lib.hid hl1
  clear hs2i hs22 hx2 hspl hcfb hs2 hl1
  have hi40 : (i : Int) + 1 ≤ 1000 := by omega
  go_wp2_with (at_builtin; go_loud (refine wpList_appCap (by rfl) _ _ (by rfl) W0 Bs x (i : Int) hri0 (fun e => (Hnil.out e).1) rfl (by rfl) (by rfl) (by rfl) hx6 ?_); intro v5 w5 ho5 hb5; (obtain ⟨A5, c5, rfl, _, _⟩ := OwnI.form ho5); (rw [Hl1.out] at ho5); (rw [Hl1.out]); (have d0 := (hb5.cell (lt_of_cell c0)).trans c0); (have d1 := (hb5.cell (lt_of_cell c1)).trans c1); have Ho5 := Lib.hid ho5; have Hb5 := Lib.hid hb5; clear ho5 hb5)
  have hri5 : RI w5 A5 (x ++ [(i : Int)]) := by
    have h := Ho5.out
    rw [← Hl1.out] at h
    exact OwnI.ri h
  have hcfc := r13ConflictFree_any A n l c A5 (x ++ [(i : Int)]) c5 w5 (hr.below (endB HWW.out Hb5.out)) hlen Hgl.out hri5 (by rw [Hl1.out]; omega)
  rw [Hl1.out] at hcfc
  have Hcfc := Lib.hid hcfc
  clear hcfc hri5
  refine Hcfc.out.mono ?_
  rintro e w6 ⟨rfl, hb6⟩
  have hb56 := endB (endB hb0 Hb5.out) hb6
  have hWW6 := endB HW.out hb56
  have hfo6 := Hfo.out.below hb56
  have hB6 := Nat.le_trans hBw hb56.size
  have hso6 : OwnI w6 0 (.slice Bs x.length cs) x := OwnI.below Hso.out hb56
  have ho56 : OwnI w6 0 (.slice A5 (x.length + 1) c5) (x ++ [(i : Int)]) := OwnI.mono (OwnI.below Ho5.out hb6) (Nat.zero_le _)
  have e0 := (hb6.cell (lt_of_cell d0)).trans d0
  have e1 := (hb6.cell (lt_of_cell d1)).trans d1
  have hG6 : w.heap.size < w6.heap.size := Nat.lt_of_lt_of_le hlt0 (endB Hb5.out hb6).size
  have Hfo6 := Lib.hid hfo6; have Hso6 := Lib.hid hso6; have Ho56 := Lib.hid ho56; have HWW6 := Lib.hid hWW6; have Hb56 := Lib.hid hb56
  clear hfo6 hso6 ho56 hWW6 hb56 d0 d1 c0 c1
  obtain ⟨q, hq⟩ : ∃ q, cfR n l (x ++ [(i : Int)]) = q := ⟨_, rfl⟩
  have hcfb := Hcfb.out
  rw [hq] at hcfb ⊢
  have Hcfb2 := Lib.hid hcfb
  clear hq hcfb Hcfc Hcfb
  -- the search without node i
  have hcall : ∀ (w7 : World) (A7 : Option Addr) (c7 : Nat) (xs7 : List Value) (F7 : List (List Int)), Below W.heap.size W w7 → B ≤ w7.heap.size → Fou w7 B (.slice A7 F7.length c7) xs7 F7 → F7.length ≤ 201 → OwnI w7 0 (.slice Bs x.length cs) x →
      Calls Tryd.prog 65 #[.agg #[.int .i64 (n : Int), .slice A l.length c], .slice A7 F7.length c7, .slice Bs x.length cs, .int .i64 ((i : Int) + 1)] w7 (RetEx ((navD n l s (fromN n (i + 1))).map (ndN n)) F7 (.slice A7 F7.length c7) B w7) := fun w7 A7 c7 xs7 F7 h1 h2 h3 h4 h5 => by
    have := ih (n - (i + 1)) hm1 s (i + 1) (.slice A7 F7.length c7) xs7 F7 w7 Bs cs (Nat.le_refl _) hilt (fun j hj => by have := Hsi.out j hj; omega) Hsf.out h1 h2 h3 h4 (by rw [Hxd.out]; exact h5)
    rw [Hxd.out] at this
    exact this
  have Hcall := Lib.hid hcall
  clear hcall
  cases q
  case false =>
    have hnone : navD n l s2 (fromN n (i + 1)) = [] := by
      rcases Classical.em (∃ a b, has s2 a ∧ has s2 b ∧ att l a b) with ⟨a, b, h1, h2, h3⟩ | h
      · exact nav_none h1 h2 h3
      · exact absurd (Hcfb2.out.2 fun a b h1 h2 h3 => h ⟨a, b, h1, h2, h3⟩) (by simp)
    have Hend := Lib.hid (show (navD n l s (fromN n i)).map (ndN n) = (navD n l s (fromN n (i + 1))).map (ndN n) by rw [Hspl.out, hnone]; rfl)
    clear hnone
    go_wp2_with fail
    refine (Hcall.out w6 AV cV xs F HWW6.out hB6 Hfo6.out hF Hso6.out).mono ?_
    rintro e w7 ⟨A7, c7, xs7, rfl, hf7, hg7, hl7⟩
    have Hf7 := Lib.hid hf7; have Hg7 := Lib.hid hg7; have Hl7 := Lib.hid hl7
    clear hf7 hg7 hl7
    go_wp2_with fail
    go_ret
    rw [Hend.out]
    exact ⟨A7, c7, xs7, rfl, Hf7.out, grown_led (grownBy_of_below Hb56.out _) (Led.refl ..) Hg7.out, (Led.refl w _).trans Hb56.out.size Hl7.out⟩
  case true =>
    have hcall2 : Calls Tryd.prog 65 #[.agg #[.int .i64 (n : Int), .slice A l.length c], .slice AV F.length cV, .slice A5 (x.length + 1) c5, .int .i64 ((i : Int) + 1)] w6 (RetEx ((navD n l s2 (fromN n (i + 1))).map (ndN n)) F (.slice AV F.length cV) B w6) := by
      have := ih (n - (i + 1)) hm1 s2 (i + 1) (.slice AV F.length cV) xs F w6 A5 c5 (Nat.le_refl _) hilt Hs2i.out (Hcfb2.out.1 rfl) HWW6.out hB6 Hfo6.out hF (by rw [Hx2.out, Hl1.out]; exact Ho56.out)
      rw [Hx2.out, Hl1.out] at this
      exact this
    have Hcall2 := Lib.hid hcall2
    clear hcall2
    go_wp2_with fail
    refine Hcall2.out.mono ?_
    rintro e w7 ⟨A7, c7, xs7, rfl, hf7, hg7, hl7⟩
    obtain ⟨F1, hF1⟩ : ∃ F1, capL 201 F ((navD n l s2 (fromN n (i + 1))).map (ndN n)) = F1 := ⟨_, rfl⟩
    have hF1l : F1.length ≤ 201 := by rw [← hF1]; exact capL_len
    have hnx : capL 201 F1 ((navD n l s (fromN n (i + 1))).map (ndN n)) = capL 201 F ((navD n l s (fromN n i)).map (ndN n)) := by rw [← hF1, capL_cap, ← List.map_append, ← Hspl.out]
    rw [hF1] at hf7 hl7 ⊢
    have hWW7 := below_own HWW6.out Hfo6.out.s hB hg7
    have hso7 : OwnI w7 0 (.slice Bs x.length cs) x := World.ownsRow.kept Hso6.out hg7 (Hso6.out.apart Hfo6.out.s)
    have hB7 := Nat.le_trans hB6 hg7.size
    have hGv : some w.heap.size ≠ (Value.slice AV F.length cV).ownBlock := fun e => by
      have := (OwnS.up Hfo.out.s w.heap.size e.symm).2; omega
    have f0 := hg7.cell e0 hGv
    have f1 := hg7.cell e1 hGv
    have Hf7 := Lib.hid hf7; have Hg7 := Lib.hid hg7; have Hl7 := Lib.hid hl7; have HWW7 := Lib.hid hWW7; have Hso7 := Lib.hid hso7; have Hnx := Lib.hid hnx
    clear hf7 hg7 hl7 hWW7 hso7 hnx hF1 hGv e0 e1
    go_wp2_with fail
    refine (Hcall.out w7 A7 c7 xs7 F1 HWW7.out hB7 Hf7.out hF1l Hso7.out).mono ?_
    rintro e w8 ⟨A8, c8, xs8, rfl, hf8, hg8, hl8⟩
    have Hf8 := Lib.hid hf8; have Hg8 := Lib.hid hg8; have Hl8 := Lib.hid hl8
    clear hf8 hg8 hl8
    go_wp2_with fail
    go_ret
    have h1 := Hf8.out; have h2 := Hl8.out
    rw [Hnx.out] at h1 h2 ⊢
    exact ⟨A8, c8, xs8, rfl, h1, grown_led (grown_led (grownBy_of_below Hb56.out _) (Led.refl ..) Hg7.out) ((Led.refl w _).trans Hb56.out.size Hl7.out) Hg8.out, ((Led.refl w _).trans Hb56.out.size Hl7.out).trans (Nat.le_trans Hb56.out.size Hg7.out.size) h2⟩

set_option maxRecDepth 100000 in
set_option maxHeartbeats 4000000 in
theorem r14Naive_any (A : Option Addr) (N : Int) (l : List (Int × Int)) (c : Nat) (w : World) (hr : RP w A l) (hlen : l.length ≤ 100000) :
    Calls Tryd.prog 21 #[.agg #[.int .i64 N, .slice A l.length c]] w (RetLE (navR N l) w) := by
  go_enter Tryd.func21, Tryd.ntmps21
  go_wp2_with fail
  obtain ⟨W0, hW, c0, c1, hb0, hlt0⟩ := boxed w 24 (.int .i64 N) (.slice A l.length c)
  rw [hW]
  clear hW
  refine (r10Validate_any A N l c W0 (hr.below hb0) hlen).mono ?_
  rintro e w1 ⟨rfl, hb1⟩
  have hb01 := endB hb0 hb1
  by_cases hv : valE N l = 0
  case neg =>
    have hvb : (valE N l != 0) = true := by rw [bne_iff_ne]; exact hv
    have H := Lib.hid (navR_bad hv)
    clear hv
    go_wp2_with fail
    go_ret2
    rw [H.out]
    exact ⟨none, 0, rfl, RSo.nil _ _, fun _ => ⟨rfl, rfl⟩, hb01⟩
  case pos =>
  obtain ⟨n, rfl, hvl⟩ := vld_of_valE hv hlen
  have hvb : (valE n l != 0) = false := by rw [hv]; rfl
  have hr0 := navR_ok hv
  rw [navL_ndL hvl.1.1] at hr0
  have Hr := Lib.hid hr0
  clear hv hr0
  have d0 := (hb1.cell (lt_of_cell c0)).trans c0
  have d1 := (hb1.cell (lt_of_cell c1)).trans c1
  have hn := hvl.1.1
  have hnav : navD n l 0 (fromN n 0) = navL n l := sorted_extR lexM_asymm (nav_sorted ..) (nav_all_sorted ..) fun m => by
    rw [mem_nav, mem_navL]
    exact ⟨fun h => h.1, fun h => ⟨h, fun j hj => absurd hj has_zero, fun j hj => .inr ((has_fromN hn (Nat.zero_le _)).2 ⟨Nat.zero_le _, h.lt j hj⟩)⟩⟩
  have hnd0 : ndN n 0 = [] := by
    rw [List.eq_nil_iff_forall_not_mem]
    intro y hy
    obtain ⟨j, _, hp, _⟩ := mem_nodesB.1 hy
    simp at hp
  have hex := rchoose_any w A n l c hr hvl w1.heap.size hb01.size n 0 0 (.slice none 0 0) [] [] w1 none 0 (by simp) (by simp) (fun j hj => absurd hj has_zero) (fun a _ ha => absurd ha has_zero) hb01 (Nat.le_refl _) ⟨OwnS.nil _ _, OwnL.nil _ _⟩ (by simp) (by rw [hnd0]; exact OwnI.nil _ _)
  rw [hnd0, hnav] at hex
  have hex2 : Calls Tryd.prog 65 #[.agg #[.int .i64 (n : Int), .slice A l.length c], .slice none 0 0, .slice none 0 0, .int .i64 0] w1 (RetEx ((navL n l).map (ndN n)) [] (.slice none 0 0) w1.heap.size w1) := hex
  have Hex := Lib.hid hex2
  clear hex hex2 c0 c1 hnav hnd0
  obtain ⟨LL, hLL⟩ : ∃ LL, (navL n l).map (ndN n) = LL := ⟨_, rfl⟩
  have hll : (navL n l).length = LL.length := by rw [← hLL, List.length_map]
  rw [hLL] at Hex Hr
  rw [hll] at Hr
  clear hLL hll
  go_wp2_with fail
  refine Hex.out.mono ?_
  rintro e w2 ⟨A', c', xs', rfl, hfo, hg, hled⟩
  have hbw : Below w.heap.size w w2 := below_own hb01 (OwnS.nil w1 w1.heap.size) hb01.size hg
  have Hbw := Lib.hid hbw; have Hfo := Lib.hid hfo
  clear hbw hfo hg hled
  by_cases hlim : 200 < LL.length
  · have hd : (capL 201 [] LL).length = 201 := by unfold capL; rw [List.nil_append, List.length_take]; omega
    rw [hd]
    have Hc := Lib.hid (show navR n l = ([], 2) by rw [Hr.out, if_pos hlim])
    clear hlim hd
    go_wp2_with fail
    go_ret2
    rw [Hc.out]
    exact ⟨none, 0, rfl, RSo.nil _ _, fun _ => ⟨rfl, rfl⟩, Hbw.out⟩
  · have hcap : capL 201 [] LL = LL := by unfold capL; rw [List.nil_append, List.take_of_length_le (by omega)]
    have hfo := Hfo.out
    rw [hcap] at hfo ⊢
    have hle : ¬ (200 : Int) < (LL.length : Int) := by omega
    have Hc := Lib.hid (show navR n l = (LL, 0) by rw [Hr.out, if_neg hlim])
    obtain ⟨A2, c2, e2, hrs, hnil⟩ := OwnS.forms2 hfo.s hfo.l
    injection e2 with e3 _ e4
    subst e3 e4
    have Hrs := Lib.hid hrs; have Hnil := Lib.hid hnil
    clear hlim hcap hrs hnil hfo
    go_wp2_with fail
    go_ret2
    rw [Hc.out]
    exact ⟨A', c', rfl, Hrs.out, Hnil.out, Hbw.out⟩
end Go.Proofs.YtajocnhebfpjaaaDoor
