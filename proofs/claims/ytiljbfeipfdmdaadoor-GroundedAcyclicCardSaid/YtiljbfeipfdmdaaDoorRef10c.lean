/- The reference of layer 10: Attackers and its mirror. -/
import Derived.Test.YtiljbfeipfdmdaaDoorRef10b
namespace Go.Proofs.YtiljbfeipfdmdaaDoor
open Go.ChangeShapes Go.WideShapes Go.ChangeAt Go.RowKit

def attackersL (l : List (Int × Int)) (i : Int) : List Int := (l.filter (fun p => p.2 == i)).map (·.1)
def attackedL (l : List (Int × Int)) (i : Int) : List Int := (l.filter (fun p => p.1 == i)).map (·.2)
theorem attackersL_hit {l : List (Int × Int)} {i : Int} {k : Nat} (h : k < l.length) (hx : l[k].2 = i) : attackersL (l.take (k + 1)) i = attackersL (l.take k) i ++ [l[k].1] := by
  unfold attackersL; rw [List.take_succ_eq_append_getElem h, List.filter_append, List.map_append]; simp [hx]
theorem attackersL_miss {l : List (Int × Int)} {i : Int} {k : Nat} (h : k < l.length) (hx : l[k].2 ≠ i) : attackersL (l.take (k + 1)) i = attackersL (l.take k) i := by
  unfold attackersL; rw [List.take_succ_eq_append_getElem h, List.filter_append]; simp [hx]
theorem attackersL_len (l : List (Int × Int)) (i : Int) : (attackersL l i).length ≤ l.length := by unfold attackersL; rw [List.length_map]; exact List.length_filter_le _ _
theorem attackedL_hit {l : List (Int × Int)} {i : Int} {k : Nat} (h : k < l.length) (hx : l[k].1 = i) : attackedL (l.take (k + 1)) i = attackedL (l.take k) i ++ [l[k].2] := by
  unfold attackedL; rw [List.take_succ_eq_append_getElem h, List.filter_append, List.map_append]; simp [hx]
theorem attackedL_miss {l : List (Int × Int)} {i : Int} {k : Nat} (h : k < l.length) (hx : l[k].1 ≠ i) : attackedL (l.take (k + 1)) i = attackedL (l.take k) i := by
  unfold attackedL; rw [List.take_succ_eq_append_getElem h, List.filter_append]; simp [hx]
theorem attackedL_len (l : List (Int × Int)) (i : Int) : (attackedL l i).length ≤ l.length := by unfold attackedL; rw [List.length_map]; exact List.length_filter_le _ _

set_option maxHeartbeats 2000000 in
theorem r10Attackers_any (A : Option Addr) (N : Int) (l : List (Int × Int)) (c : Nat) (i : Int) (w : World) (hr : RP w A l) (hlen : l.length ≤ 100000) :
    Calls Tryd.prog 66 #[.agg #[.int .i64 N, .slice A l.length c], .int .i64 i] w (RetI (attackersL (nGl N l) i) w) := by
  go_enter Tryd.func66, Tryd.ntmps66
  go_wp2_with fail
  obtain ⟨W0, hW, c0, c1, hb0, hlt0⟩ := boxed w 27 (.int .i64 N) (.slice A l.length c)
  have k0 : Blk W0 w.heap.size 27 #[.int .i64 N, .slice A l.length c] := by rw [← hW]; exact Blk.new w _ _
  rw [hW]
  have hr0 := hr.below hb0
  have hltA : ∀ b o, A = some ⟨b, o, none⟩ → 0 < (nGl N l).length → b ≠ w.heap.size := fun b o hA hl => by have := hr.lt hA (by unfold nGl at hl; split at hl <;> simp_all); omega
  clear hW hr c0 c1
  refine (r10Valid_any _ _ _ _ _ hr0 hlen).mono ?_
  rintro e w1 ⟨A', c', rfl, hr1, hAA, hb⟩
  have hlen' := nGl_len (N := N) hlen
  have k1 := k0.below hb k0.lt
  obtain ⟨a0, a1, a2, a3⟩ := k1.two
  have hbb := endB hb0 hb
  generalize nGn N l = N' at *
  generalize nGl N l = l' at *
  have hltA' : ∀ b o, A' = some ⟨b, o, none⟩ → 0 < l'.length → b ≠ w.heap.size := fun b o hA hl => by
    rcases hAA with h | h
    · rw [h] at hA
      have := hltA b o hA
      omega
    · subst h; simp at hl
  have k2 : Blk _ w.heap.size 27 #[.int .i64 N', .slice A' l'.length c'] := (k1.set_ 0 (.int .i64 N')).set_ 1 (.slice A' l'.length c')
  have hr2 := hr1.far2 hltA' (.int .i64 N') (.slice A' l'.length c')
  have hE : Below w.heap.size w ((w1.setCell ⟨w.heap.size, 0, none⟩ (.int .i64 N')).setCell ⟨w.heap.size, 1, none⟩ (.slice A' l'.length c')) := (hbb.setCell (p := ⟨w.heap.size, 0, none⟩) (Nat.le_refl _) _).setCell (p := ⟨w.heap.size, 1, none⟩) (Nat.le_refl _) _
  obtain ⟨W2, hW2⟩ : ∃ W2, (w1.setCell ⟨w.heap.size, 0, none⟩ (.int .i64 N')).setCell ⟨w.heap.size, 1, none⟩ (.slice A' l'.length c') = W2 := ⟨_, rfl⟩
  rw [hW2] at k2 hr2 hE
  go_wp2_with fail
  clear hW2 a0 a1 a2 a3 k1 hr1 hAA hltA hltA'
  have hW2s := hE.size
  have hltk := k2.lt
  go_loopw [5, 6] (fun v j wr => ∃ k : Nat, k ≤ l'.length ∧ j = .int .i64 k ∧ OwnI wr W2.heap.size v (attackersL (l'.take k) i) ∧ Below W2.heap.size W2 wr) (fun _ j _ => l'.length - (intOf j).toNat)
  case atStart => exact ⟨0, by omega, rfl, OwnI.nil _ _, Below.refl _ _⟩
  case round =>
    obtain ⟨k, hk, rfl, hown, hbl⟩ := hrel
    obtain ⟨a0, a1, _, _⟩ := (k2.below hbl hltk).two
    have Hown := Lib.hid hown; clear hown
    by_cases hlt : k < l'.length
    case neg =>
      go_wp2
      go_ret
      refine RetI.mk ?_ (endB hE hbl)
      have := Hown.out
      rw [List.take_of_length_le (by omega)] at this
      exact OwnI.mono this hE.size
    case pos =>
    have hkl : (attackersL (l'.take k) i).length ≤ 100000 := by have h1 := attackersL_len (l'.take k) i; have h2 := List.length_take_le k l'; omega
    obtain ⟨b, o, rfl, hc, hd⟩ := (hr2.below hbl).at_ hlt
    by_cases t1 : l'[k].2 = i
    case neg =>
      have g1 : (l'[k].2 == i) = false := by simpa using t1
      have T1 := Lib.hid t1; clear t1
      go_wp2
      go_roundw
      case rel => exact ⟨k + 1, by omega, by go_num, by rw [attackersL_miss hlt T1.out]; exact Hown.out, hbl⟩
      case measure => simp [intOf]; omega
    case pos =>
    have g1 : (l'[k].2 == i) = true := by simpa using t1
    have T1 := Lib.hid t1; clear t1
    go_wp2_with (at_builtin; refine wpList_appI (by rfl) _ _ (by rfl) wr W2.heap.size _ _ l'[k].1 Hown.out (by rfl) (by rfl) (by omega) hbl.size ?_; intro v' w3 hown' hb3 _)
    go_roundw
    case rel => exact ⟨k + 1, by omega, by go_num, by rw [attackersL_hit hlt T1.out]; exact hown', hbl.trans hb3⟩
    case measure => simp [intOf]; omega
end Go.Proofs.YtiljbfeipfdmdaaDoor
