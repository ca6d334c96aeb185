/- graph.Reach: the nodes that a node reaches; plain words and the walk. -/
import Derived.Test.YtkflanjlnbdkmaaGreatDoorGr
import Derived.Deep.Cut
namespace Go.Proofs.YtkflanjlnbdkmaaGreatDoor
open Go.ChangeShapes Go.WideShapes Go.ChangeAt Go.RowKit

/-- a set with the nodes that it attacks -/
def widN (l : List (Int × Int)) (m : Nat) : Nat := m ||| attN l m
theorem widN_lt {n : Nat} {l : List (Int × Int)} (hv : InR n l) {m : Nat} (h : m < 2 ^ n) : widN l m < 2 ^ n := or_lt h (attN_u64 hv m)
theorem le_wid (l : List (Int × Int)) (m : Nat) : m ≤ widN l m := Nat.left_le_or
theorem has_wid {n : Nat} {l : List (Int × Int)} (hv : InR n l) {m j : Nat} : has (widN l m) j ↔ has m j ∨ ∃ a, has m a ∧ att l a j := by unfold widN; rw [has_or, has_attN hv]
theorem has_one {i j : Nat} : has (1 <<< i) j ↔ j = i := by
  unfold has
  rw [Nat.one_shiftLeft, Nat.testBit_two_pow]
  simp; exact eq_comm
theorem one_lt {n i : Nat} (h : i < n) : 1 <<< i < 2 ^ n := by rw [Nat.one_shiftLeft]; exact Nat.pow_lt_pow_right (by omega) h
/-- the nodes that i reaches -/
def reachM (n : Nat) (l : List (Int × Int)) (i : Nat) : Nat := itN (widN l) (2 ^ n) (1 <<< i)
theorem wid_grow (l : List (Int × Int)) (m : Nat) : ∀ k, (∃ q, q ≤ k ∧ widN l (itN (widN l) q m) = itN (widN l) q m) ∨ m + k ≤ itN (widN l) k m
  | 0 => .inr (Nat.le_refl _)
  | k + 1 => by
    rcases wid_grow l m k with ⟨q, hq, h⟩ | h
    · exact .inl ⟨q, by omega, h⟩
    · have h1 := le_wid l (itN (widN l) k m)
      by_cases e : widN l (itN (widN l) k m) = itN (widN l) k m
      · exact .inl ⟨k, by omega, e⟩
      · refine .inr ?_
        show m + (k + 1) ≤ widN l (itN (widN l) k m)
        omega
theorem wid_lt {n : Nat} {l : List (Int × Int)} (hv : InR n l) : ∀ k m, m < 2 ^ n → itN (widN l) k m < 2 ^ n := itN_lt (fun _ h => widN_lt hv h)
theorem reach_lt {n : Nat} {l : List (Int × Int)} (hv : InR n l) {i : Nat} (hi : i < n) : reachM n l i < 2 ^ n := wid_lt hv _ _ (one_lt hi)
theorem reach_fix {n : Nat} {l : List (Int × Int)} (hv : InR n l) {i : Nat} (hi : i < n) : widN l (reachM n l i) = reachM n l i := by
  rcases wid_grow l (1 <<< i) (2 ^ n) with ⟨q, hq, h⟩ | h
  · have := itN_at h hq
    unfold reachM
    rw [this]; exact h
  · have := reach_lt hv hi
    unfold reachM at this
    exact absurd (Nat.lt_of_lt_of_le this (Nat.le_trans (Nat.le_add_left _ _) h)) (Nat.lt_irrefl _)
theorem wid_keep {n : Nat} {l : List (Int × Int)} (hv : InR n l) {m j : Nat} (h : has m j) : ∀ k, has (itN (widN l) k m) j
  | 0 => h
  | k + 1 => (has_wid hv).2 (.inl (wid_keep hv h k))
theorem reach_self {n : Nat} {l : List (Int × Int)} (hv : InR n l) (i : Nat) : has (reachM n l i) i := wid_keep hv (has_one.2 rfl) _
theorem reach_step {n : Nat} {l : List (Int × Int)} (hv : InR n l) {i a b : Nat} (hi : i < n) (ha : has (reachM n l i) a) (h : att l a b) : has (reachM n l i) b := by
  rw [← reach_fix hv hi]
  exact (has_wid hv).2 (.inr ⟨a, ha, h⟩)
theorem reach_least {n : Nat} {l : List (Int × Int)} (hv : InR n l) {i : Nat} {z : Nat → Prop} (hz : ∀ a b, z a → att l a b → z b) (h : z i) : ∀ j, has (reachM n l i) j → z j := by
  have key : ∀ k j, has (itN (widN l) k (1 <<< i)) j → z j := by
    intro k
    induction k with
    | zero => intro j hj; rw [has_one.1 hj]; exact h
    | succ k ih =>
      intro j hj
      rcases (has_wid hv).1 hj with hj | ⟨a, ha, hab⟩
      · exact ih j hj
      · exact hz a j (ih a ha) hab
  exact key _
/-- what Reach returns -/
def reachL (n : Nat) (l : List (Int × Int)) (i : Int) : List Int := if 0 ≤ i ∧ i < n then nodesB n (reachM n l i.toNat).testBit else []
theorem reachL_out {n : Nat} {l : List (Int × Int)} {i : Int} (h : i < 0 ∨ (n : Int) ≤ i) : reachL n l i = [] := by unfold reachL; rw [if_neg (by omega)]
theorem reachL_in {n j : Nat} {l : List (Int × Int)} (h : j < n) : reachL n l j = nodesB n (reachM n l j).testBit := by unfold reachL; rw [if_pos ⟨by omega, by omega⟩, Int.toNat_natCast]

/-- what the inner loop has gathered -/
def gatN (l : List (Int × Int)) (z : Nat) (ks : List Int) : Nat := ks.foldl (fun z k => z ||| mkM l k.toNat) z
theorem gatN_snoc (l : List (Int × Int)) (z : Nat) (ks : List Int) (k : Int) : gatN l z (ks ++ [k]) = gatN l z ks ||| mkM l k.toNat := by unfold gatN; rw [List.foldl_append]; rfl
theorem gatN_lt {n : Nat} {l : List (Int × Int)} (hv : InR n l) : ∀ (ks : List Int) (z : Nat), z < 2 ^ n → gatN l z ks < 2 ^ n
  | [], _, h => h
  | k :: ks, z, h => gatN_lt hv ks _ (or_lt h (mkM_lt (n := n) (fun p hp => by have := hv.2.2 p hp; omega) k.toNat))
theorem has_gat {n : Nat} {l : List (Int × Int)} (hv : InR n l) {j : Nat} : ∀ (ks : List Int) (z : Nat), has (gatN l z ks) j ↔ has z j ∨ ∃ k ∈ ks, att l k.toNat j
  | [], z => by simp [gatN]
  | k :: ks, z => by
    have : gatN l z (k :: ks) = gatN l (z ||| mkM l k.toNat) ks := rfl
    rw [this, has_gat hv ks, has_or, has_mkM hv]
    simp only [List.mem_cons, exists_eq_or_imp, or_assoc]
theorem gat_wid {n : Nat} {l : List (Int × Int)} (hv : InR n l) (z : Nat) (hz : z < 2 ^ n) : gatN l z (nodesB 64 z.testBit) = widN l z := by
  have hn := hv.1
  apply has_ext
  intro j
  rw [has_gat hv, has_wid hv]
  constructor
  · rintro (h | ⟨k, hk, h⟩)
    · exact .inl h
    · obtain ⟨a, _, ha, rfl⟩ := mem_nodesB.1 hk
      rw [Int.toNat_natCast] at h
      exact .inr ⟨a, ha, h⟩
  · rintro (h | ⟨a, ha, h⟩)
    · exact .inl h
    · refine .inr ⟨(a : Int), mem_nodesB.2 ⟨a, by have := has_lt hz ha; omega, ha, rfl⟩, by rw [Int.toNat_natCast]; exact h⟩

set_option maxRecDepth 100000 in
set_option maxHeartbeats 4000000 in
theorem gReach_any (A : Option Addr) (N : Int) (l : List (Int × Int)) (c : Nat) (i : Int) (w : World) (hr : RP w A l) (hlen : l.length ≤ 100000) (hT : Tab w) :
    Calls Tryz.prog 45 #[.agg #[.int .i64 N, .slice A l.length c], .int .i64 i] w (RetI (reachL (nGn N l).toNat (nGl N l) i) w) := by
  go_enter Tryz.func45, Tryz.ntmps45
  go_wp2_with fail
  obtain ⟨W0, hW, c0, c1, hb0, hlt0⟩ := boxed w 24 (.int .i64 N) (.slice A l.length c)
  have k0 : Blk W0 w.heap.size 24 #[.int .i64 N, .slice A l.length c] := by rw [← hW]; exact Blk.new w _ _
  rw [hW]
  have hr0 := hr.below hb0
  have hltA : ∀ b o, A = some ⟨b, o, none⟩ → 0 < (nGl N l).length → b ≠ w.heap.size := fun b o hA hl => by have := hr.lt hA (by unfold nGl at hl; split at hl <;> simp_all); omega
  clear hW hr c0 c1
  refine (proper_any _ _ _ _ _ hr0 hlen).mono ?_
  rintro e w1 ⟨A', c', rfl, hr1, hAA, hb⟩
  have hlen' := nGl_len (N := N) hlen
  have k1 := k0.below hb k0.lt
  obtain ⟨a0, a1, a2, a3⟩ := k1.two
  have hbb := endB hb0 hb
  obtain ⟨n, hn, hv⟩ := vld_proper N l hlen
  have Hnn := Lib.hid (show (nGn N l).toNat = n by rw [hn]; rfl)
  rw [hn]
  clear hn
  generalize nGl N l = l' at *
  have hltA' : ∀ b o, A' = some ⟨b, o, none⟩ → 0 < l'.length → b ≠ w.heap.size := fun b o hA hl => by
    rcases hAA with h | h
    · rw [h] at hA
      have := hltA b o hA
      omega
    · subst h; simp at hl
  have k2 : Blk _ w.heap.size 24 #[.int .i64 (n : Int), .slice A' l'.length c'] := (k1.set_ 0 (.int .i64 (n : Int))).set_ 1 (.slice A' l'.length c')
  have hr2 := hr1.far2 hltA' (.int .i64 (n : Int)) (.slice A' l'.length c')
  have hE : Below w.heap.size w ((w1.setCell ⟨w.heap.size, 0, none⟩ (.int .i64 (n : Int))).setCell ⟨w.heap.size, 1, none⟩ (.slice A' l'.length c')) := (hbb.setCell (p := ⟨w.heap.size, 0, none⟩) (Nat.le_refl _) _).setCell (p := ⟨w.heap.size, 1, none⟩) (Nat.le_refl _) _
  obtain ⟨W2, hW2⟩ : ∃ W2, (w1.setCell ⟨w.heap.size, 0, none⟩ (.int .i64 (n : Int))).setCell ⟨w.heap.size, 1, none⟩ (.slice A' l'.length c') = W2 := ⟨_, rfl⟩
  rw [hW2] at k2 hr2 hE
  have d0 : W2.cell? ⟨w.heap.size, 0, none⟩ = some (.int .i64 (n : Int)) := k2.two.1
  have d1 : W2.cell? ⟨w.heap.size, 1, none⟩ = some (.slice A' l'.length c') := k2.two.2.1
  have hTw := hT.below hE
  have hn40 := hv.1.1
  by_cases hi : i < 0
  · have Ho := Lib.hid (reachL_out (n := n) (l := l') (.inl hi))
    go_wp2_with fail
    go_ret
    rw [Hnn.out, Ho.out]
    exact RetI.nil hE
  have hi' : 0 ≤ i := by omega
  clear hi
  by_cases hi2 : (n : Int) ≤ i
  · have Ho := Lib.hid (reachL_out (l := l') (.inr hi2))
    go_wp2_with fail
    go_ret
    rw [Hnn.out, Ho.out]
    exact RetI.nil hE
  have hi2' : i < n := by omega
  clear hi2
  obtain ⟨j, rfl⟩ := Int.eq_ofNat_of_zero_le hi'
  have hjn : j < n := by omega
  have h1 := u64_one_shl j (by omega)
  rw [Int.one_mul] at h1
  have H1 := Lib.hid h1
  clear h1
  go_upto_region 4 with fail
  clear hW2 a0 a1 a2 a3 k1 k2
  refine wp_region_textB [1] (fun w' => Below W2.heap.size W2 w') (fun _ => True) (by kernel_rfl) (by kernel_rfl) (by kernel_rfl) (Below.refl _ _).drew trivial ?_
  repeat (first
    | (refine TxtBL.skip (by rfl) ?_; simp only [Act.put, List.setIfInBounds_toArray, List.set_cons_zero, List.set_cons_succ])
    | (refine TxtBL.take (by rfl) (by rfl) ?_; apply Exists.intro; refine ⟨fun w1 hS1 => ?_, ?_⟩; (focus ((have g0 := (hS1.cell (lt_of_cell d0)).trans d0); (have g1 := (hS1.cell (lt_of_cell d1)).trans d1); go_simp; with_reducible rfl)); simp only [Act.put, List.setIfInBounds_toArray, List.set_cons_zero, List.set_cons_succ])
    | (refine TxtBL.takeE (by rfl) (by rfl) ?_; apply Exists.intro; refine ⟨fun w1 hS1 => ?_, ?_⟩; (focus ((have g0 := (hS1.cell (lt_of_cell d0)).trans d0); (have g1 := (hS1.cell (lt_of_cell d1)).trans d1); go_simp; with_reducible rfl)); simp only [Act.put, List.setIfInBounds_toArray, List.set_cons_zero, List.set_cons_succ]))
  refine TxtBL.call (f := 67) (args := #[.agg #[.int .i64 (n : Int), .slice A' l'.length c']]) (fun v => ∃ g, v = Value.slice (some ⟨g, 0, none⟩) n n ∧ W2.heap.size ≤ g) (fun v w' => ∃ g, v = Value.slice (some ⟨g, 0, none⟩) n n ∧ w'.rowIs g 92 n (fun i => .int .u64 (mkM l' i : Nat))) (by rfl) (by rfl) ⟨_, _, rfl, Nat.le_refl _⟩ (fun w1 hS1 hJ1 => by go_simp) (fun w1 hS1 hJ1 => ?_) ?_
  · refine (masks_any A' n l' c' w1 (hr2.below hS1) hv.1).mono ?_
    rintro e w' ⟨g, rfl, hg, hrow, hb3⟩
    exact ⟨_, rfl, hS1.trans (hb3.mono hS1.size), ⟨g, rfl, Nat.le_trans hS1.size hg⟩, g, rfl, hrow⟩
  rintro v21 ⟨g, rfl, hg⟩
  simp only [Act.put, List.setIfInBounds_toArray, List.set_cons_zero, List.set_cons_succ]
  repeat (first
    | (refine TxtBL.skip (by rfl) ?_; simp only [Act.put, List.setIfInBounds_toArray, List.set_cons_zero, List.set_cons_succ])
    | (refine TxtBL.take (by rfl) (by rfl) ?_; apply Exists.intro; refine ⟨fun w1 hS1 => ?_, ?_⟩; (focus (skip; go_simp; with_reducible rfl)); simp only [Act.put, List.setIfInBounds_toArray, List.set_cons_zero, List.set_cons_succ])
    | (refine TxtBL.takeE (by rfl) (by rfl) ?_; apply Exists.intro; refine ⟨fun w1 hS1 => ?_, ?_⟩; (focus (skip; go_simp; with_reducible rfl)); simp only [Act.put, List.setIfInBounds_toArray, List.set_cons_zero, List.set_cons_succ]))
  refine TxtBL.nil (fun W3 hS3 hJ3 => ?_)
  obtain ⟨g', hg', hrow⟩ := hJ3
  injection hg' with hg' _ _; injection hg' with hg'; injection hg' with hg' _ _; subst hg'
  rw [H1.out]
  have hE3 := hE.trans (hS3.mono hE.size)
  have Hin := Lib.hid (reachL_in (l := l') hjn)
  have hone := one_lt hjn
  have hv1 := hv.1
  have HV := Lib.hid hv1
  clear hS3 hTw hE d0 d1 hr2 hr1 hr0 hb hbb hb0 hltA hltA' hAA hlen' hv hv1
  go_wp2_with fail
  go_loopw [6] (fun v wr => ∃ k z : Nat, v = .int .u64 (z : Nat) ∧ itN (widN l') k (1 <<< j) = z ∧ 1 <<< j + k ≤ z ∧ z < 2 ^ n ∧ wr.rowIs g 92 n (fun i => .int .u64 (mkM l' i : Nat)) ∧ Below w.heap.size w wr) (fun v _ => 2 ^ n - (intOf v).toNat)
  case atStart => exact ⟨0, 1 <<< j, rfl, rfl, by omega, hone, hrow, hE3⟩
  case round =>
    clear hrow hE3
    obtain ⟨k, z, rfl, hz, hkz, hzn, hrow, hbl⟩ := hrel
    have Hz := Lib.hid hz; clear hz
    have hzu : z < 18446744073709551616 := u64_of hn40 hzn
    go_wp2_with fail
    refine (glist_any z hzu wr (hT.below hbl)).mono ?_
    rintro e w4 ⟨A5, c5, rfl, _, hri, _, hb4⟩
    have hrow4 := rowIs_new hrow hb4
    have hbl4 := hbl.trans (hb4.mono hbl.size)
    have hkn : ∀ x ∈ nodesB 64 z.testBit, ∃ a : Nat, x = a ∧ a < n := fun x hx => by
      obtain ⟨a, _, ha, rfl⟩ := mem_nodesB.1 hx
      exact ⟨a, rfl, has_lt hzn ha⟩
    have hgw := gat_wid HV.out z hzn
    have hkl := nodesB_length 64 z.testBit
    have Hkn := Lib.hid hkn; have Hgw := Lib.hid hgw
    clear hkn hgw hrow hb4
    generalize nodesB 64 z.testBit = ks at *
    go_wp2_with fail
    go_loop [7, 28] (fun m t => ∃ q : Nat, q ≤ ks.length ∧ t = .int .i64 q ∧ m = .int .u64 (gatN l' z (ks.take q) : Nat)) (fun _ t => ks.length - (intOf t).toNat)
    case atStart => exact ⟨0, Nat.zero_le _, rfl, rfl⟩
    case round =>
      obtain ⟨q, hq, rfl, rfl⟩ := hrel
      by_cases hql : q < ks.length
      case pos =>
        obtain ⟨b5, o5, rfl, hc5⟩ := hri.at_ hql
        obtain ⟨a, ha, han⟩ := Hkn.out _ (List.getElem_mem hql)
        rw [ha] at hc5
        have hca := World.rowIs.cell hrow4 han
        have hgl : gatN l' z (ks.take q) < 18446744073709551616 := u64_of hn40 (gatN_lt HV.out _ _ hzn)
        have hml : mkM l' a < 18446744073709551616 := u64_of hn40 (mkM_lt (n := n) (fun p hp => by have := HV.out.2.2 p hp; omega) a)
        have hval : bits .or .u64 ((gatN l' z (ks.take q) : Nat) : Int) ((mkM l' a : Nat) : Int) = ((gatN l' z (ks.take (q + 1)) : Nat) : Int) := by
          rw [u64_or_nat _ _ hgl hml, List.take_succ_eq_append_getElem hql, gatN_snoc, ha, Int.toNat_natCast]
        have han' : (a : Int) < (n : Int) := by omega
        clear ha hgl hml
        go_wp2_with fail
        go_round
        case rel => exact ⟨q + 1, by omega, by go_num, by first | rfl | rw [hval]⟩
        case measure => simp [intOf]; omega
      case neg =>
      obtain rfl : q = ks.length := by omega
      rw [List.take_length, Hgw.out]
      generalize hg2 : widN l' z = y at *
      have Hg2 := Lib.hid hg2
      by_cases hf : y = z
      · have hd : ((y : Int) == (z : Int)) = true := by simp [hf]
        have Hf := Lib.hid hf
        clear hf hg2
        go_wp2_with fail
        refine (glist_any z hzu w4 (hT.below hbl4)).mono ?_
        rintro e w5 ⟨A6, c6, rfl, ho6, hri6, hn6, hb6⟩
        go_wp2_with fail
        go_ret
        have hR : reachM n l' j = z := by
          have h2 : widN l' (itN (widN l') k (1 <<< j)) = itN (widN l') k (1 <<< j) := by rw [Hz.out, Hg2.out, Hf.out]
          unfold reachM
          rw [itN_at h2 (Nat.le_trans (Nat.le_trans (Nat.le_add_left _ _) hkz) (Nat.le_of_lt hzn)), Hz.out]
        rw [Hnn.out, Hin.out, hR, ← nodesB_64 hzn (by omega)]
        exact ⟨A6, c6, rfl, ho6.mono hbl4.size, hri6, hn6, hbl4.trans (hb6.mono hbl4.size)⟩
      · have hd : ((y : Int) == (z : Int)) = false := by rw [beq_eq_false_iff_ne]; omega
        have hle : z ≤ y := by rw [← hg2]; exact le_wid l' z
        have hyn : y < 2 ^ n := by rw [← hg2]; exact widN_lt HV.out hzn
        have Hf := Lib.hid hf
        clear hf hg2
        go_wp2_with fail
        have hne := Hf.out
        go_roundw
        case rel => exact ⟨k + 1, y, rfl, by show widN l' (itN _ k _) = _; rw [Hz.out, Hg2.out], by omega, hyn, hrow4, hbl4⟩
        case measure => simp [intOf]; omega
end Go.Proofs.YtkflanjlnbdkmaaGreatDoor
