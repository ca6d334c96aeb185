/- ref10.Reach. -/
import Derived.Test.YtkflanjlnbdkmaaGreatDoorRr10
import Derived.Test.YtkflanjlnbdkmaaGreatDoorRef10
namespace Go.Proofs.YtkflanjlnbdkmaaGreatDoor
open Go.ChangeShapes Go.WideShapes Go.ChangeAt Go.RowKit

theorem reach_rch {n : Nat} {l : List (Int × Int)} {i : Nat} (hi : i < n) : reachL n l i = nodesB n (rchB n l i) := reachL_in hi

set_option maxRecDepth 100000 in
set_option maxHeartbeats 4000000 in
theorem r10Reach_any (A : Option Addr) (N : Int) (l : List (Int × Int)) (c : Nat) (i : Int) (w : World) (hr : RP w A l) (hlen : l.length ≤ 100000) :
    Calls Tryz.prog 52 #[.agg #[.int .i64 N, .slice A l.length c], .int .i64 i] w (RetI (reachL (nGn N l).toNat (nGl N l) i) w) := by
  go_enter Tryz.func52, Tryz.ntmps52
  go_wp2_with fail
  obtain ⟨W0, hW, c0, c1, hb0, hlt0⟩ := boxed w 24 (.int .i64 N) (.slice A l.length c)
  have k0 : Blk W0 w.heap.size 24 #[.int .i64 N, .slice A l.length c] := by rw [← hW]; exact Blk.new w _ _
  rw [hW]
  have hr0 := hr.below hb0
  have hltA : ∀ b o, A = some ⟨b, o, none⟩ → 0 < (nGl N l).length → b ≠ w.heap.size := fun b o hA hl => by have := hr.lt hA (by unfold nGl at hl; split at hl <;> simp_all); omega
  clear hW hr c0 c1
  refine (r10Valid_any _ _ _ _ _ hr0 hlen).mono ?_
  rintro e w1 ⟨A', c', rfl, hr1, hAA, hb⟩
  have hlen' := nGl_len (N := N) hlen
  have k1 := k0.below hb k0.lt
  obtain ⟨a0, a1, a2, a3⟩ := k1.two
  have hbb := endB hb0 hb
  obtain ⟨n, hn, hv⟩ := vld_proper N l hlen
  have Hnn := Lib.hid (show (nGn N l).toNat = n by rw [hn]; rfl)
  rw [hn]
  clear hn
  generalize nGl N l = l' at *
  have hltA' : ∀ b o, A' = some ⟨b, o, none⟩ → 0 < l'.length → b ≠ w.heap.size := fun b o hA hl => by
    rcases hAA with h | h
    · rw [h] at hA
      have := hltA b o hA
      omega
    · subst h; simp at hl
  have k2 : Blk _ w.heap.size 24 #[.int .i64 (n : Int), .slice A' l'.length c'] := (k1.set_ 0 (.int .i64 (n : Int))).set_ 1 (.slice A' l'.length c')
  have hr2 := hr1.far2 hltA' (.int .i64 (n : Int)) (.slice A' l'.length c')
  have hE : Below w.heap.size w ((w1.setCell ⟨w.heap.size, 0, none⟩ (.int .i64 (n : Int))).setCell ⟨w.heap.size, 1, none⟩ (.slice A' l'.length c')) := (hbb.setCell (p := ⟨w.heap.size, 0, none⟩) (Nat.le_refl _) _).setCell (p := ⟨w.heap.size, 1, none⟩) (Nat.le_refl _) _
  obtain ⟨W2, hW2⟩ : ∃ W2, (w1.setCell ⟨w.heap.size, 0, none⟩ (.int .i64 (n : Int))).setCell ⟨w.heap.size, 1, none⟩ (.slice A' l'.length c') = W2 := ⟨_, rfl⟩
  rw [hW2] at k2 hr2 hE
  have d0 : W2.cell? ⟨w.heap.size, 0, none⟩ = some (.int .i64 (n : Int)) := k2.two.1
  have d1 : W2.cell? ⟨w.heap.size, 1, none⟩ = some (.slice A' l'.length c') := k2.two.2.1
  have hn40 := hv.1.1
  clear hr0 hr1 hAA hltA hltA' hb hbb hb0 hlt0 hlen hlen' k0
  by_cases hi : i < 0
  · have Ho := Lib.hid (reachL_out (n := n) (l := l') (.inl hi))
    go_wp2_with fail
    go_ret
    rw [Hnn.out, Ho.out]
    exact RetI.nil hE
  have hi' : 0 ≤ i := by omega
  clear hi
  by_cases hi2 : (n : Int) ≤ i
  · have Ho := Lib.hid (reachL_out (l := l') (.inr hi2))
    go_wp2_with fail
    go_ret
    rw [Hnn.out, Ho.out]
    exact RetI.nil hE
  have hi2' : i < n := by omega
  clear hi2
  obtain ⟨j, rfl⟩ := Int.eq_ofNat_of_zero_le hi'
  have hjn : j < n := by omega
  have hre := reached_any A' n l' c' j W2 hr2 hv.1 hjn
  have Hre := Lib.hid hre
  have Hrl := Lib.hid (reach_rch (l := l') hjn)
  go_upto_region 5 with fail
  clear hre hW2 a0 a1 a2 a3 k1 k2
  go_wp2_with fail
  refine Hre.out.mono ?_
  rintro e w3 ⟨g, rfl, hg, hrow, hb3⟩
  have hEg := hE.trans (hb3.mono hE.size)
  have hEs := hE.size
  clear Hre d0 d1 hr2 hv
  have hgw := hrow.lt
  go_wp2_with fail
  go_loopw [5, 22] (fun v t wr => ∃ k : Nat, k ≤ n ∧ t = .int .i64 k ∧ OwnI wr w3.heap.size v (nodesB k (rchB n l' j)) ∧ Below w3.heap.size w3 wr) (fun _ t _ => n - (intOf t).toNat)
  case atStart => exact ⟨0, Nat.zero_le _, rfl, OwnI.nil _ _, Below.refl _ _⟩
  case round =>
    obtain ⟨k, hk, rfl, hown, hbl⟩ := hrel
    have Hown := Lib.hid hown
    obtain ⟨A9, c9, rfl, hri9, hn9⟩ := OwnI.form hown
    have hkl := nodesB_length k (rchB n l' j)
    clear hown
    by_cases hkn : k < n
    case pos =>
      have hrow2 : RowB wr g n (rchB n l' j) := rowIs_below hrow hbl hgw
      have ck := hrow2.cell hkn
      have hk0 : (0 : Int) ≤ (k : Int) := by omega
      have hk1 : (k : Int) < (n : Int) := by omega
      have hsn := nodesB_succ k (rchB n l' j)
      obtain ⟨b, hb⟩ : ∃ b, rchB n l' j k = b := ⟨_, rfl⟩
      rw [hb] at ck hsn
      have Hsn := Lib.hid hsn
      clear hsn hb hri9 hn9 hrow2
      cases b
      case false =>
        go_wp2_with fail
        go_roundw
        case rel => exact ⟨k + 1, by omega, by go_num, by rw [Hsn.out]; simp; exact Hown.out, hbl⟩
        case measure => simp [intOf]; omega
      case true =>
        generalize nodesB k (rchB n l' j) = nk at *
        go_wp2_with (at_builtin; refine wpList_appI (by rfl) _ _ (by rfl) wr w3.heap.size _ nk (k : Int) Hown.out (by rfl) (by rfl) (by omega) hbl.size ?_; intro v' w8 hown8 hb8 _)
        go_roundw
        case rel => exact ⟨k + 1, by omega, by go_num, by rw [Hsn.out]; exact hown8, hbl.trans hb8⟩
        case measure => simp [intOf]; omega
    case neg =>
      obtain rfl : n = k := by omega
      go_wp2_with fail
      go_ret
      rw [Hnn.out, Hrl.out]
      exact ⟨A9, c9, rfl, (Hown.out).mono (Nat.le_trans hEs hb3.size), hri9, hn9, endB hEg hbl⟩
end Go.Proofs.YtkflanjlnbdkmaaGreatDoor
