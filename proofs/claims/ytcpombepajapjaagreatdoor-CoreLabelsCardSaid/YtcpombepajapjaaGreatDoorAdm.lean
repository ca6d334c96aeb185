import Derived.Test.YtcpombepajapjaaGreatDoorBas
import Derived.Test.YtcpombepajapjaaGreatDoorBit
import Derived.Deep.RegionHeld3
import Derived.Test.YtcpombepajapjaaGreatDoorTxtX
/- admissible: attacked, whole, step, free, sound, mask, list. -/
namespace Go.Proofs.YtcpombepajapjaaGreatDoor
open Go.ChangeShapes Go.WideShapes Go.ChangeAt Go.RowKit

set_option maxHeartbeats 400000 in
theorem attacked_any (A : Option Addr) (n : Nat) (l : List (Int × Int)) (c : Nat) (m : Nat) (w : World) (hr : RP w A l) (hv : InR n l) (hm : m < 18446744073709551616) :
    Calls Tryz.prog 66 #[.agg #[.int .i64 (n : Int), .slice A l.length c], .int .u64 (m : Int)] w (RetB (.int .u64 (attN l m : Nat)) w) := by
  have hlen := hv.2.1
  have Hv := Lib.hid hv; clear hv
  go_enter Tryz.func66, Tryz.ntmps66
  go_wp2
  go_loopw [5, 11] (fun v i wr => ∃ k : Nat, k ≤ l.length ∧ v = .int .u64 (attN (l.take k) m : Nat) ∧ i = .int .i64 k ∧ Below w.heap.size w wr) (fun v i _ => l.length - (intOf i).toNat)
  case atStart => exact ⟨0, by omega, by simp [attN], rfl, (Below.refl _ _).alloc (Nat.le_refl _) _⟩
  case round =>
    obtain ⟨k, hk, rfl, rfl, hbl⟩ := hrel
    have hz : attN (l.take k) m < 18446744073709551616 := by
      refine u64_of Hv.out.1 (attN_lt_pow _ _ _ fun p hp => ?_)
      have := Hv.out.2.2 p (List.mem_of_mem_take hp); omega
    generalize hzz : attN (l.take k) m = z at hz ⊢
    have Hz := Lib.hid hzz; have Hzl := Lib.hid hz; clear hzz hz
    by_cases hlt : k < l.length
    · obtain ⟨b, o, rfl, hc, hd⟩ := (hr.below hbl).at_ hlt
      have hv := Hv.out.2.2 l[k] (List.getElem_mem _)
      obtain ⟨v1, v2, v3, v4⟩ := hv
      have hn40 := Hv.out.1
      go_wp2
      go_quiet (fail)
      go_wp2
      go_roundw
      case rel =>
        refine ⟨k + 1, by omega, ?_, by go_num, below_drewN (hbl.alloc hbl.size _) _⟩
        rw [att_step z m l[k] Hzl.out hm (by omega), List.take_succ_eq_append_getElem hlt, attN_snoc, Hz.out]
      case measure => simp [intOf]; omega
    · go_wp2
      go_ret
      refine ⟨?_, hbl⟩
      rw [← Hz.out, List.take_of_length_le (by omega)]
      rfl

set_option maxHeartbeats 400000 in
theorem whole_any (A : Option Addr) (n : Nat) (L c : Nat) (w : World) (hn : n ≤ 40) :
    Calls Tryz.prog 68 #[.agg #[.int .i64 (n : Int), .slice A L c]] w (RetB (.int .u64 (allN n : Nat)) w) := by
  go_enter Tryz.func68, Tryz.ntmps68
  go_wp2
  go_ret
  refine ⟨?_, (Below.refl _ _).alloc (Nat.le_refl _) _⟩
  have h := allN_u64 n (by omega)
  rw [Int.one_mul] at h
  exact ri h

/-- what a call that makes memory leaves of two cells, and of all that was there at W0 -/
theorem keepC {W0 wa wb : World} {a b : Addr} {va vb : Value} (h1 : wa.cell? a = some va) (h2 : wa.cell? b = some vb) (h3 : Below W0.heap.size W0 wa) (hb : Below wa.heap.size wa wb) :
    wb.cell? a = some va ∧ wb.cell? b = some vb ∧ Below W0.heap.size W0 wb :=
  ⟨(hb.cell (lt_of_cell h1)).trans h1, (hb.cell (lt_of_cell h2)).trans h2, h3.trans (hb.mono h3.size)⟩

theorem endB {w W0 w' : World} (h : Below w.heap.size w W0) (k : Below W0.heap.size W0 w') : Below w.heap.size w w' := h.trans (k.mono h.size)
theorem leB {w W0 w' : World} (h : Below w.heap.size w W0) (k : Below W0.heap.size W0 w') : w.heap.size ≤ w'.heap.size := Nat.le_trans h.size k.size
theorem boxed (w : World) (t : TypeId) (x y : Value) : ∃ W0, w.alloc (.cells #[x, y] t) = W0 ∧ W0.cell? ⟨w.heap.size, 0, none⟩ = some x ∧ W0.cell? ⟨w.heap.size, 1, none⟩ = some y ∧ Below w.heap.size w W0 ∧ w.heap.size < W0.heap.size :=
  ⟨_, rfl, by rw [(Blk.new w t #[x, y]).cell]; rfl, by rw [(Blk.new w t #[x, y]).cell]; rfl, (Below.refl _ _).alloc (Nat.le_refl _) _, by simp⟩

set_option maxHeartbeats 1000000 in
theorem step_any (A : Option Addr) (n : Nat) (l : List (Int × Int)) (c : Nat) (m : Nat) (w : World) (hr : RP w A l) (hv : InR n l) (hm : m < 18446744073709551616) :
    Calls Tryz.prog 50 #[.agg #[.int .i64 (n : Int), .slice A l.length c], .int .u64 (m : Int)] w (RetB (.int .u64 (stepN n l m : Nat)) w) := by
  have hn := hv.1
  go_enter Tryz.func50, Tryz.ntmps50
  go_wp2_with fail
  obtain ⟨W0, hW, c0, c1, hb0, hlt0⟩ := boxed w 24 (.int .i64 (n : Int)) (.slice A l.length c)
  rw [hW]
  have hr0 := hr.below hb0
  clear hW hr
  have ha1 := attN_u64 hv m
  have ha2 := attN_u64 hv (minusN (allN n) (attN l m))
  have e1 := u64_minus (allN n) (attN l m) (u64_of hn (allN_lt n)) (u64_of hn ha1)
  have e2 := u64_minus (allN n) (attN l (minusN (allN n) (attN l m))) (u64_of hn (allN_lt n)) (u64_of hn ha2)
  have hm2 : minusN (allN n) (attN l m) < 18446744073709551616 := Nat.lt_of_le_of_lt (minusN_le _ _) (u64_of hn (allN_lt n))
  go_region_held3 (fun w' => w'.cell? ⟨w.heap.size, 0, none⟩ = some (.int .i64 (n : Int)) ∧ w'.cell? ⟨w.heap.size, 1, none⟩ = some (.slice A l.length c) ∧ Below W0.heap.size W0 w')
    (first | exact ⟨c0, c1, (Below.refl _ _).drew⟩ | (go_split_ands; exact keepC (by assumption) (by assumption) (by assumption) (by assumption)))
    (first | (go_at_call 68; refine (whole_any _ _ _ _ _ hn).mono ?_; rintro e w' ⟨rfl, hbb⟩) | (go_at_call 66; go_split_ands; refine (attacked_any _ _ _ _ _ _ (hr0.below (by assumption)) hv (by assumption)).mono ?_; rintro e w' ⟨rfl, hbb⟩))
  go_wp2
  go_ret
  go_split_ands
  exact ⟨rfl, endB hb0 (by assumption)⟩
end Go.Proofs.YtcpombepajapjaaGreatDoor

/- math/bits.TrailingZeros64; admissible: list, mask, Valid. -/
namespace Go.Proofs.YtcpombepajapjaaGreatDoor
open Go.ChangeShapes Go.WideShapes Go.ChangeAt Go.RowKit

/-- the library's table of 64 small numbers lies in its variable -/
def Tab (w : World) : Prop := ∀ j, j < 64 → w.cell? ⟨0, j, none⟩ = some (.int .u8 (Lib.deBruijn64tab.getD j 0))
theorem Tab.below {w w' : World} (h : Tab w) (hb : Below w.heap.size w w') : Tab w' := fun j hj => (hb.cell (p := ⟨0, j, none⟩) (lt_of_cell (h j hj))).trans (h j hj)
theorem Tab.grown {w w' : World} (h : Tab w) {p : Nat} (hb : w.grownBy w' (some p)) (hp : 0 < p) : Tab w' := fun j hj => hb.cell (h j hj) (by simp; omega)

theorem tz_key (x a : Nat) (hx : x < 18446744073709551616) (hx0 : x ≠ 0) (hlow : x &&& (18446744073709551616 - x) = a) :
    IntKind.u64.wrap (bits BinOp.and IntKind.u64 (x : Int) (IntKind.u64.wrap (-(x : Int))) * 285870213051353865) / 288230376151711744 = ((a * 285870213051353865 % 18446744073709551616 / 288230376151711744 : Nat) : Int) := by
  have e1 : IntKind.u64.wrap (-(x : Int)) = ((18446744073709551616 - x : Nat) : Int) := by rw [IntKind.wrap_u64]; omega
  rw [e1, u64_and_nat x _ hx (by omega), hlow, IntKind.wrap_u64]
  omega
set_option maxHeartbeats 1000000 in
theorem tz_core (x k idx : Nat) (w : World) (hx0 : ((x : Int) == 0) = false)
    (key : IntKind.u64.wrap (bits BinOp.and IntKind.u64 (x : Int) (IntKind.u64.wrap (-(x : Int))) * 285870213051353865) / 288230376151711744 = (idx : Int))
    (hi : idx < 64) (hk : k < 64) (hcell : w.cell? ⟨0, idx, none⟩ = some (.int .u8 k)) :
    Calls Tryz.prog 67 #[.int .u64 x] w (Ret (.int .i64 k) w) := by
  go_enter Tryz.func67, Tryz.ntmps67
  go_wp2_with (simp only [key])
  go_ret
  exact ⟨rfl, rfl⟩
theorem tz_any (x : Nat) (hx : x < 18446744073709551616) (hx0 : x ≠ 0) (w : World) (hT : Tab w) :
    Calls Tryz.prog 67 #[.int .u64 (x : Int)] w (Ret (.int .i64 (Lib.ctz 64 x : Nat)) w) := by
  obtain ⟨hlow, hk⟩ := Lib.lowest_bit 64 x hx0 hx
  obtain ⟨hi, htab⟩ := Lib.deBruijn64_at _ hk
  have hcell := hT _ hi
  rw [htab] at hcell
  exact tz_core x _ _ w (by simp; omega) (tz_key x _ hx hx0 hlow) hi hk hcell

set_option maxHeartbeats 1000000 in
theorem list_any (m : Nat) (hm : m < 18446744073709551616) (w : World) (hT : Tab w) :
    Calls Tryz.prog 47 #[.int .u64 (m : Int)] w (RetI (nodesB 64 m.testBit) w) := by
  have Hm := Lib.hid hm; clear hm
  go_enter Tryz.func47, Tryz.ntmps47
  go_wp2
  go_loopw [0, 3] (fun s v wr => ∃ (z : Nat) (out : List Int), s = .int .u64 z ∧ z < 18446744073709551616 ∧ OwnI wr w.heap.size v out ∧ out ++ nodesB 64 z.testBit = nodesB 64 m.testBit ∧ Below w.heap.size w wr) (fun s _ _ => (intOf s).toNat)
  case atStart => exact ⟨m, [], rfl, Hm.out, OwnI.nil _ _, rfl, Below.refl _ _⟩
  case round =>
    obtain ⟨z, out, rfl, hz, hown, hsum, hbl⟩ := hrel
    have Hs := Lib.hid hsum; have Hz := Lib.hid hz; have Hown := Lib.hid hown; clear hsum hz hown
    by_cases h0 : z = 0
    · subst h0
      go_wp2
      go_ret
      refine RetI.mk ?_ hbl
      have e : nodesB 64 m.testBit = out := by rw [← Hs.out, nodesB_zero, List.append_nil]
      rw [e]; exact Hown.out
    · have hne : ((z : Int) != 0) = true := by simp; omega
      have H0 := Lib.hid h0; clear h0
      have hlen : out.length ≤ 64 := by
        have h1 : (out ++ nodesB 64 z.testBit).length ≤ 64 := by rw [Hs.out]; exact nodesB_length _ _
        rw [List.length_append] at h1; omega
      have hctz := (low_bit z H0.out Hz.out).1
      have e1 : IntKind.u64.wrap ((z : Int) - 1) = ((z - 1 : Nat) : Int) := by have := H0.out; have := Hz.out; rw [IntKind.wrap_u64]; omega
      have e2 : bits .and .u64 (z : Int) ((z - 1 : Nat) : Int) = ((dropLow z : Nat) : Int) := u64_and_nat z (z - 1) Hz.out (by have := Hz.out; omega)
      go_wp2_with (first
        | (go_at_call 67; refine (tz_any z Hz.out H0.out _ (hT.below hbl)).mono ?_; rintro e w' ⟨rfl, rfl⟩)
        | (at_builtin; refine wpList_appI (by rfl) _ _ (by rfl) wr w.heap.size _ out (Lib.ctz 64 z : Nat) Hown.out (by rfl) (by rfl) (by omega) hbl.size ?_; intro v' w1 hown' hb1 _))
      go_roundw
      case rel =>
        refine ⟨dropLow z, out ++ [(Lib.ctz 64 z : Int)], rfl, ?_, hown', ?_, hbl.trans hb1⟩
        · have := dropLow_lt z H0.out; have := Hz.out; omega
        · rw [List.append_assoc, ← Hs.out, nodesB_low z H0.out Hz.out]; rfl
      case measure => have := dropLow_lt z H0.out; simp [intOf]; omega
end Go.Proofs.YtcpombepajapjaaGreatDoor

/- admissible: mask, Valid, free, sound, and the properties handed to holds. -/
namespace Go.Proofs.YtcpombepajapjaaGreatDoor
open Go.ChangeShapes Go.WideShapes Go.ChangeAt Go.RowKit

/-- a list as a set -/
def maskN (l : List Int) : Nat := l.foldl (fun z x => z ||| 1 <<< x.toNat) 0
theorem maskN_snoc (l : List Int) (x : Int) : maskN (l ++ [x]) = maskN l ||| 1 <<< x.toNat := by simp [maskN, List.foldl_append]
theorem testBit_maskN (l : List Int) (j : Nat) : (maskN l).testBit j = l.any (fun x => decide (x.toNat = j)) := by
  suffices h : ∀ z, (l.foldl (fun z (x : Int) => z ||| 1 <<< x.toNat) z).testBit j = (z.testBit j || l.any (fun x => decide (x.toNat = j))) by
    have := h 0; simpa [maskN] using this
  induction l with
  | nil => intro z; simp
  | cons p l ih => intro z; rw [List.foldl_cons, List.any_cons, ih, Nat.testBit_or, Nat.one_shiftLeft, Nat.testBit_two_pow, Bool.or_assoc]
theorem maskN_lt (l : List Int) (n : Nat) (h : ∀ x ∈ l, x.toNat < n) : maskN l < 2 ^ n := by
  apply Nat.lt_pow_two_of_testBit
  intro j hj
  rw [testBit_maskN, List.any_eq_false]
  intro x hx
  have := h x hx
  simp; omega

set_option maxHeartbeats 400000 in
theorem mask_any (A : Option Addr) (l : List Int) (c : Nat) (w : World) (hr : RI w A l) (hl : l.length ≤ 100000) (hv : ∀ x ∈ l, 0 ≤ x ∧ x < 64) :
    Calls Tryz.prog 45 #[.slice A l.length c] w (Ret (.int .u64 (maskN l : Nat)) w) := by
  have Hv := Lib.hid hv; clear hv
  go_enter Tryz.func45, Tryz.ntmps45
  go_wp2
  go_loop [3, 8] (fun v i => ∃ k : Nat, k ≤ l.length ∧ v = .int .u64 (maskN (l.take k) : Nat) ∧ i = .int .i64 k) (fun v i => l.length - (intOf i).toNat)
  case atStart => exact ⟨0, by omega, by simp [maskN], rfl⟩
  case round =>
    obtain ⟨k, hk, rfl, rfl⟩ := hrel
    have hz : maskN (l.take k) < 18446744073709551616 := by
      have := maskN_lt (l.take k) 64 fun x hx => by have := Hv.out x (List.mem_of_mem_take hx); omega
      omega
    generalize hzz : maskN (l.take k) = z at hz ⊢
    have Hz := Lib.hid hzz; have Hzl := Lib.hid hz; clear hzz hz
    by_cases hlt : k < l.length
    · obtain ⟨b, o, rfl, hc⟩ := hr.at_ hlt
      obtain ⟨v1, v2⟩ := Hv.out l[k] (List.getElem_mem _)
      go_wp2
      go_round
      case rel =>
        refine ⟨k + 1, by omega, ?_, by go_num⟩
        have h1 := u64_one_shl l[k].toNat (by omega)
        rw [Int.one_mul] at h1
        have h3 : 1 <<< l[k].toNat < 18446744073709551616 := by rw [Nat.one_shiftLeft]; exact two_pow_u64 (by omega)
        rw [h1, u64_or_nat _ _ Hzl.out h3, List.take_succ_eq_append_getElem hlt, maskN_snoc, Hz.out]
      case measure => simp [intOf]; omega
    · go_wp2
      go_ret
      refine ⟨?_, rfl⟩
      rw [← Hz.out, List.take_of_length_le (by omega)]
      rfl

/-- the list is a set of nodes below N: strictly ascending -/
def setB (N : Int) (l : List Int) : Bool := decide (∀ k, k < l.length → (0 ≤ l.getD k 0 ∧ l.getD k 0 < N) ∧ (0 < k → l.getD (k - 1) 0 < l.getD k 0))
theorem setB_iff (N : Int) (l : List Int) : setB N l = true ↔ ∀ k, k < l.length → (0 ≤ l.getD k 0 ∧ l.getD k 0 < N) ∧ (0 < k → l.getD (k - 1) 0 < l.getD k 0) := by unfold setB; exact decide_eq_true_iff
theorem setB_miss {N : Int} {l : List Int} {k : Nat} (h : k < l.length) (hx : ¬ ((0 ≤ l.getD k 0 ∧ l.getD k 0 < N) ∧ (0 < k → l.getD (k - 1) 0 < l.getD k 0))) : setB N l = false := by
  cases hb : setB N l
  · rfl
  · rw [setB_iff] at hb; exact absurd (hb k h) hx

set_option maxHeartbeats 1000000 in
theorem aValid_any (G : Value) (N : Int) (A : Option Addr) (l : List Int) (c : Nat) (w : World) (hr : RI w A l) (hl : l.length ≤ 100000) :
    Calls Tryz.prog 44 #[.agg #[.int .i64 N, G], .slice A l.length c] w (RetB (.bool (setB N l)) w) := by
  go_enter Tryz.func44, Tryz.ntmps44
  go_wp2_with fail
  obtain ⟨W0, hW, c0, c1, hb0, hlt0⟩ := boxed w 24 (.int .i64 N) G
  rw [hW]
  have hr0 := hr.below hb0
  clear hW hr
  go_loop [9] (fun i => ∃ k : Nat, k ≤ l.length ∧ i = .int .i64 k ∧ ∀ j, j < k → (0 ≤ l.getD j 0 ∧ l.getD j 0 < N) ∧ (0 < j → l.getD (j - 1) 0 < l.getD j 0)) (fun i => l.length - (intOf i).toNat)
  case atStart => exact ⟨0, by omega, rfl, fun j hj => absurd hj (by omega)⟩
  case round =>
    obtain ⟨k, hk, rfl, hall⟩ := hrel
    have Hall := Lib.hid hall; clear hall
    by_cases hlt : k < l.length
    · obtain ⟨b, o, rfl, hc⟩ := hr0.at_ hlt
      have hg : l.getD k 0 = l[k] := by simp [List.getD, hlt]
      have Hg := Lib.hid hg; clear hg
      by_cases h1 : l[k] < 0
      · go_wp2
        go_ret
        exact ⟨rb (setB_miss hlt (fun h => by have := h.1.1; rw [Hg.out] at this; omega)).symm, hb0⟩
      · have h1' : 0 ≤ l[k] := by omega
        clear h1
        by_cases h2 : N ≤ l[k]
        · go_wp2
          go_ret
          exact ⟨rb (setB_miss hlt (fun h => by have := h.1.2; rw [Hg.out] at this; omega)).symm, hb0⟩
        · have h2' : l[k] < N := by omega
          clear h2
          by_cases h3 : 0 < k
          · obtain ⟨j, hj⟩ : ∃ j, k = j + 1 := ⟨k - 1, by omega⟩
            subst hj
            have hjl : j < l.length := by omega
            obtain ⟨b', o', hA, hc'⟩ := hr0.at_ hjl
            injection hA with hA
            injection hA with hb ho
            subst hb ho
            have hg2 : l.getD j 0 = l[j] := by simp [List.getD, hjl]
            have Hg2 := Lib.hid hg2; clear hg2
            by_cases h4 : l[j + 1] ≤ l[j]
            · go_wp2
              go_ret
              exact ⟨rb (setB_miss hlt (fun h => by have := h.2 (by omega); rw [Hg.out, Nat.add_sub_cancel, Hg2.out] at this; omega)).symm, hb0⟩
            · have h4' : l[j] < l[j + 1] := by omega
              clear h4
              go_wp2
              go_round
              case rel =>
                refine ⟨j + 1 + 1, by omega, by go_num, fun i hi => ?_⟩
                by_cases e : i < j + 1
                · exact Hall.out i e
                · obtain rfl : i = j + 1 := by omega
                  exact ⟨⟨by rw [Hg.out]; exact h1', by rw [Hg.out]; exact h2'⟩, fun _ => by rw [Hg.out, Nat.add_sub_cancel, Hg2.out]; exact h4'⟩
              case measure => simp [intOf]; omega
          · have hk0 : k = 0 := by omega
            subst hk0
            have hc0 : W0.cell? ⟨b, o, none⟩ = some (.int .i64 l[0]) := by simpa using hc
            clear hc
            go_wp2
            go_round
            case rel =>
              refine ⟨1, by omega, by go_num, fun i hi => ?_⟩
              obtain rfl : i = 0 := by omega
              exact ⟨⟨by rw [Hg.out]; exact h1', by rw [Hg.out]; exact h2'⟩, fun h => absurd h (by omega)⟩
            case measure => simp [intOf]; omega
    · go_wp2
      go_ret
      exact ⟨rb ((setB_iff _ _).2 (fun j hj => Hall.out j (by omega))).symm, hb0⟩
end Go.Proofs.YtcpombepajapjaaGreatDoor

/- admissible: free, sound, the other properties, holds, and what it is called for. -/
namespace Go.Proofs.YtcpombepajapjaaGreatDoor
open Go.ChangeShapes Go.WideShapes Go.ChangeAt Go.RowKit

def freeB (l : List (Int × Int)) (m : Nat) : Bool := (attN l m &&& m) == 0
def soundB (n : Nat) (l : List (Int × Int)) (m : Nat) : Bool := freeB l m && minusN m (stepN n l m) == 0
def complB (n : Nat) (l : List (Int × Int)) (m : Nat) : Bool := soundB n l m && stepN n l m == m
def stabB (n : Nat) (l : List (Int × Int)) (m : Nat) : Bool := freeB l m && (m ||| attN l m) == allN n
theorem natBeq (a b : Nat) : (((a : Int)) == ((b : Int))) = (a == b) := by rw [Bool.eq_iff_iff]; simp; omega
theorem natBeq0 (a : Nat) : (((a : Int)) == 0) = (a == 0) := natBeq a 0
theorem stepN_u64 {n : Nat} (_hn : n ≤ 40) (l : List (Int × Int)) (m : Nat) : stepN n l m < 2 ^ n := Nat.lt_of_le_of_lt (minusN_le _ _) (allN_lt n)

set_option maxHeartbeats 400000 in
theorem free_any (A : Option Addr) (n : Nat) (l : List (Int × Int)) (c : Nat) (m : Nat) (w : World) (hr : RP w A l) (hv : InR n l) (hm : m < 18446744073709551616) :
    Calls Tryz.prog 46 #[.agg #[.int .i64 (n : Int), .slice A l.length c], .int .u64 (m : Int)] w (RetB (.bool (freeB l m)) w) := by
  have e1 := u64_and_nat (attN l m) m (u64_of hv.1 (attN_u64 hv m)) hm
  have e2 := natBeq0 (attN l m &&& m)
  have E1 := Lib.hid e1; have E2 := Lib.hid e2; clear e1 e2
  go_enter Tryz.func46, Tryz.ntmps46
  go_wp2_with fail
  refine (attacked_any _ _ _ _ _ _ (hr.below ((Below.refl _ _).alloc (Nat.le_refl _) _)) hv hm).mono ?_
  rintro e w1 ⟨rfl, hb⟩
  go_wp2_with fail
  go_ret
  refine ⟨rb ?_, ((Below.refl _ _).alloc (Nat.le_refl _) _).trans (hb.mono (by simp))⟩
  show (bits BinOp.and IntKind.u64 ↑(attN l m) ↑m == 0) = _
  rw [E1.out, E2.out]
  rfl

end Go.Proofs.YtcpombepajapjaaGreatDoor

/- admissible: holds at each property; ConflictFree, Admissible, IsComplete, IsStable, Defends, Step, Range. -/
namespace Go.Proofs.YtcpombepajapjaaGreatDoor
open Go.ChangeShapes Go.WideShapes Go.ChangeAt Go.RowKit

theorem setB_range {N : Int} {l : List Int} (h : setB N l = true) : ∀ x ∈ l, 0 ≤ x ∧ x < N := by
  intro x hx
  obtain ⟨k, hk, rfl⟩ := List.getElem_of_mem hx
  have := ((setB_iff _ _).1 h k hk).1
  simpa [List.getD, hk] using this
theorem setB_mask {n : Nat} (hn : n ≤ 40) {l : List Int} (h : setB n l = true) : (∀ x ∈ l, 0 ≤ x ∧ x < 64) ∧ maskN l < 2 ^ n := by
  refine ⟨fun x hx => ?_, maskN_lt l n fun x hx => ?_⟩ <;> have := setB_range h x hx <;> omega

end Go.Proofs.YtcpombepajapjaaGreatDoor

/- admissible: Defends, Step, Range. -/
namespace Go.Proofs.YtcpombepajapjaaGreatDoor
open Go.ChangeShapes Go.WideShapes Go.ChangeAt Go.RowKit

theorem nodesB_64 {n m : Nat} (h : m < 2 ^ n) (hn : n ≤ 64) : nodesB 64 m.testBit = nodesB n m.testBit :=
  nodesB_more hn fun i hi => Nat.testBit_lt_two_pow (Nat.lt_of_lt_of_le h (Nat.pow_le_pow_right (by omega) hi))

/-- what Step returns -/
def stepL (n : Nat) (l : List (Int × Int)) (x : List Int) : List Int := if setB n x then nodesB n (stepN n l (maskN x)).testBit else []
theorem RetI.nil {w w' : World} (h : Below w.heap.size w w') : RetI [] w (.returned (.slice none 0 0)) w' := ⟨none, 0, rfl, OwnI.nil _ _, RI.nil _ _, fun _ => rfl, h⟩

/-- what Range returns -/
def rangeL (n : Nat) (l : List (Int × Int)) (x : List Int) : List Int := if setB n x then nodesB n (maskN x ||| attN l (maskN x)).testBit else []

/-- what Defends returns -/
def defB (n : Nat) (l : List (Int × Int)) (x : List Int) (i : Int) : Bool := decide (0 ≤ i) && decide (i < n) && setB n x && (stepN n l (maskN x)).testBit i.toNat

end Go.Proofs.YtcpombepajapjaaGreatDoor

/- admissible: until, Grow, Shrink. -/
namespace Go.Proofs.YtcpombepajapjaaGreatDoor
open Go.ChangeShapes Go.WideShapes Go.ChangeAt Go.RowKit

/-- a captured graph: the block that holds it -/
def Cap (w : World) (p : Nat) (n : Nat) (A : Option Addr) (L c : Nat) : Prop := w.cell? ⟨p, 0, none⟩ = some (.int .i64 (n : Int)) ∧ w.cell? ⟨p, 1, none⟩ = some (.slice A L c)
theorem Cap.below {w w' : World} {p n : Nat} {A : Option Addr} {L c : Nat} (h : Cap w p n A L c) (hb : Below w.heap.size w w') : Cap w' p n A L c :=
  ⟨(hb.cell (lt_of_cell h.1)).trans h.1, (hb.cell (lt_of_cell h.2)).trans h.2⟩

set_option maxHeartbeats 1000000 in
theorem shrink1_any (p : Nat) (A : Option Addr) (n : Nat) (l : List (Int × Int)) (c m : Nat) (w : World) (hc : Cap w p n A l.length c) (hr : RP w A l) (hv : InR n l) (hm : m < 18446744073709551616) :
    Calls Tryz.prog 49 #[.int .u64 (m : Int), .pointer (some ⟨p, 0, none⟩)] w (RetB (.int .u64 (m &&& stepN n l m : Nat)) w) := by
  obtain ⟨c0, c1⟩ := hc
  have e1 := u64_and_nat m (stepN n l m) hm (u64_of hv.1 (stepN_u64 hv.1 l m))
  go_enter Tryz.func49, Tryz.ntmps49
  go_wp2_with fail
  refine (step_any _ _ _ _ _ _ hr hv hm).mono ?_
  rintro e w1 ⟨rfl, hb⟩
  go_wp2_with fail
  go_ret
  exact ⟨rfl, hb⟩

set_option maxHeartbeats 1000000 in
theorem until_shrink (p : Nat) (A : Option Addr) (n : Nat) (l : List (Int × Int)) (c m : Nat) (w : World) (hc : Cap w p n A l.length c) (hr : RP w A l) (hv : InR n l) (hm : m < 2 ^ n) :
    Calls Tryz.prog 48 #[.int .u64 (m : Int), .func (.func 49) #[] #[.pointer (some ⟨p, 0, none⟩)]] w (RetB (.int .u64 (shrinkN n l m : Nat)) w) := by
  have Hm := Lib.hid hm; clear hm
  go_enter Tryz.func48, Tryz.ntmps48
  go_wp2_with fail
  go_loopw [0] (fun v wr => ∃ k z : Nat, v = .int .u64 (z : Nat) ∧ itN (fun m => m &&& stepN n l m) k m = z ∧ z + k ≤ m ∧ Below w.heap.size w wr) (fun v _ => (intOf v).toNat)
  case atStart => exact ⟨0, m, rfl, rfl, by omega, Below.refl _ _⟩
  case round =>
    obtain ⟨k, z, rfl, hz, hkz, hbl⟩ := hrel
    have Hz := Lib.hid hz; clear hz
    have hzu : z < 18446744073709551616 := u64_of hv.1 (by have := Hm.out; omega)
    go_wp2_with fail
    refine (shrink1_any p A n l c z wr (hc.below hbl) (hr.below hbl) hv hzu).mono ?_
    rintro e w1 ⟨rfl, hb1⟩
    generalize hg : z &&& stepN n l z = y
    have Hg := Lib.hid hg; clear hg
    by_cases hf : y = z
    · have hd : ((y : Int) == (z : Int)) = true := by simp [hf]
      have Hf := Lib.hid hf; clear hf
      go_wp2_with fail
      go_ret
      refine ⟨?_, hbl.trans (hb1.mono hbl.size)⟩
      have : shrinkN n l m = z := by
        unfold shrinkN
        rw [itN_at (k := k) (by rw [Hz.out, Hg.out]; exact Hf.out) (by have := Hm.out; omega), Hz.out]
      rw [this]
      rfl
    · have hd : ((y : Int) == (z : Int)) = false := by rw [beq_eq_false_iff_ne]; omega
      have Hf := Lib.hid hf; clear hf
      have hle : y ≤ z := by rw [← Hg.out]; exact Nat.and_le_left
      go_wp2_with fail
      have hne := Hf.out
      go_roundw
      case rel => exact ⟨k + 1, y, rfl, by show (itN _ k m &&& stepN n l (itN _ k m)) = _; rw [Hz.out, Hg.out], by omega, hbl.trans (hb1.mono hbl.size)⟩
      case measure => simp [intOf]; omega
end Go.Proofs.YtcpombepajapjaaGreatDoor

/- admissible: Grow, Shrink. -/
namespace Go.Proofs.YtcpombepajapjaaGreatDoor
open Go.ChangeShapes Go.WideShapes Go.ChangeAt Go.RowKit

/-- the call returns a new slice that holds the list, and an error number -/
def RetE (l : List Int) (er : Int) (w : World) : Ending → World → Prop := fun e w' => ∃ A c, e = .returned (.tuple #[.slice A l.length c, .int .i64 er]) ∧ OwnI w' w.heap.size (.slice A l.length c) l ∧ RI w' A l ∧ (A = none → l = []) ∧ Below w.heap.size w w'
theorem RetE.nil {w w' : World} (er : Int) (h : Below w.heap.size w w') : RetE [] er w (.returned (.tuple #[.slice none 0 0, .int .i64 er])) w' := ⟨none, 0, rfl, OwnI.nil _ _, RI.nil _ _, fun _ => rfl, h⟩

theorem sub_of_sound {n : Nat} {l : List (Int × Int)} {m : Nat} (hv : InR n l) (hm : m < 2 ^ n) (h : soundB n l m = true) : sub m (stepN n l m) := by
  intro j hj
  simp only [soundB, Bool.and_eq_true, beq_iff_eq] at h
  have h2 := h.2
  rcases Classical.em (has (stepN n l m) j) with hs | hs
  · exact hs
  · have : has (minusN m (stepN n l m)) j := (has_minusN (u64_of hv.1 hm) (u64_of hv.1 (stepN_lt n l m))).2 ⟨hj, hs⟩
    rw [h2] at this
    exact absurd this has_zero
theorem itN_lt {f : Nat → Nat} {B : Nat} (h : ∀ m, m < B → f m < B) : ∀ k m, m < B → itN f k m < B
  | 0, _, hm => hm
  | k + 1, m, hm => h _ (itN_lt h k m hm)
theorem growN_lt {n : Nat} {l : List (Int × Int)} {m : Nat} (hm : m < 2 ^ n) : growN n l m < 2 ^ n := itN_lt (fun _ _ => stepN_lt n l _) _ _ hm
theorem shrinkN_lt {n : Nat} {l : List (Int × Int)} {m : Nat} (hm : m < 2 ^ n) : shrinkN n l m < 2 ^ n := itN_lt (fun _ h => Nat.lt_of_le_of_lt Nat.and_le_left h) _ _ hm

def growL (n : Nat) (l : List (Int × Int)) (x : List Int) : List Int × Int :=
  if setB n x then if soundB n l (maskN x) then (nodesB n (growN n l (maskN x)).testBit, 0) else ([], 7) else ([], 1)
def shrinkL (n : Nat) (l : List (Int × Int)) (x : List Int) : List Int × Int :=
  if setB n x then if freeB l (maskN x) then (nodesB n (shrinkN n l (maskN x)).testBit, 0) else ([], 10) else ([], 1)

set_option maxHeartbeats 1000000 in
theorem aShrink_any (A : Option Addr) (n : Nat) (l : List (Int × Int)) (c : Nat) (B : Option Addr) (x : List Int) (cx : Nat) (w : World) (hr : RP w A l) (hv : InR n l) (hx : RI w B x) (hxl : x.length ≤ 100000) (hT : Tab w) :
    Calls Tryz.prog 28 #[.agg #[.int .i64 (n : Int), .slice A l.length c], .slice B x.length cx] w (RetE (shrinkL n l x).1 (shrinkL n l x).2 w) := by
  have hn := hv.1
  have hmf : ∀ (fn : Fn) (first cap : Array Value) (w : World), (Instr.makeFunc fn first cap).run Tryz.prog w = .ok (.func fn first cap) w := fun _ _ _ _ => rfl
  go_enter Tryz.func28, Tryz.ntmps28
  go_wp2_with fail
  obtain ⟨W0, hW, c0, c1, hb0, hlt0⟩ := boxed w 24 (.int .i64 (n : Int)) (.slice A l.length c)
  rw [hW]
  have hr0 := hr.below hb0
  have hx0 := hx.below hb0
  have hT0 : Tab W0 := hT.below hb0
  clear hW hr hx hT
  go_wp2_with fail
  refine (aValid_any _ _ _ _ _ _ hx0 hxl).mono ?_
  rintro e w1 ⟨rfl, hb1⟩
  obtain ⟨d0, d1, hbb⟩ := keepC c0 c1 (Below.refl _ _) hb1
  cases hs : setB n x
  · go_wp2_with fail
    go_ret2
    simp only [shrinkL, hs]
    exact RetE.nil _ (endB hb0 hbb)
  · have hm := setB_mask hn hs
    have hmu := u64_of hn hm.2
    have hmn := hm.2
    have Hm := Lib.hid hm.1; have Hs := Lib.hid hs; clear hs hm
    go_wp2_with fail
    refine (mask_any _ _ _ _ (hx0.below hbb) hxl Hm.out).mono ?_
    rintro e w2 ⟨rfl, rfl⟩
    go_wp2_with fail
    refine (free_any _ _ _ _ _ _ (hr0.below hbb) hv hmu).mono ?_
    rintro e w2 ⟨rfl, hb2⟩
    obtain ⟨f0, f1, hbb2⟩ := keepC d0 d1 hbb hb2
    cases hsd : freeB l (maskN x)
    · go_wp2_with fail
      go_ret2
      simp only [shrinkL, Hs.out, hsd]
      exact RetE.nil _ (endB hb0 hbb2)
    · have Hsd := Lib.hid hsd; clear hsd
      go_wp2_with fail
      refine (until_shrink w.heap.size A n l c (maskN x) w2 ⟨f0, f1⟩ (hr0.below hbb2) hv hmn ).mono ?_
      rintro e w3 ⟨rfl, hb3⟩
      have hbb3 : Below W0.heap.size W0 w3 := hbb2.trans (hb3.mono hbb2.size)
      go_wp2_with fail
      refine (list_any _ (u64_of hn (shrinkN_lt hmn)) _ (hT0.below hbb3)).mono ?_
      rintro e w4 hh
      obtain ⟨A', c', rfl, ho, hri, hni, hb4⟩ := RetI.base hh (leB hb0 hbb3)
      go_wp2_with fail
      go_ret2
      simp only [shrinkL, Hs.out, Hsd.out, if_true]
      rw [← nodesB_64 (shrinkN_lt hmn) (by omega)]
      exact ⟨A', c', rfl, ho, hri, hni, endB hb0 (hbb3.trans (hb4.mono hbb3.size))⟩
end Go.Proofs.YtcpombepajapjaaGreatDoor
