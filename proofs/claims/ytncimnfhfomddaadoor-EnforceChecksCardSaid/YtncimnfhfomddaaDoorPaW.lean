import Derived.Test.YtncimnfhfomddaaDoorNpW
/- net.Some, law21.pairs. -/
namespace Go.Proofs.YtncimnfhfomddaaDoor
open Go.ChangeShapes Go.WideShapes Go.ChangeAt Go.RowKit

/-- the call returns a set of nodes, new -/
def RetNs (p n : Nat) (w : World) : Ending → World → Prop := fun e w' => ∃ (l : List Int) (A : Option Addr) (c : Nat), e = .returned (.slice A l.length c) ∧ setB n l = true ∧ OwnI w' w.heap.size (.slice A l.length c) l ∧ SrcOk w' p ∧ w.grownBy w' (some p)
theorem own_far {w : World} {base size n p : Nat} {e : TypeId} {v : Value} {xs : List Value} (h : w.ownsRow base e size v n xs) (hp : p < base) : v.ownBlock ≠ some p := fun e => by
  have := (World.ownsRow.lt h p e).1; omega
set_option maxRecDepth 100000 in
set_option maxHeartbeats 2000000 in
theorem nwSome_any (p n : Nat) (w : World) (h : SrcOk w p) (hn : n ≤ 40) : Calls Tryd.prog 18 #[.pointer (some ⟨p, 0, none⟩), .int .i64 (n : Int)] w (RetNs p n w) := by
  have hpl := h.lt
  go_enter Tryd.func18, Tryd.ntmps18
  go_wp2_with fail
  go_loopw [5, 6] (fun v i wr => ∃ (k : Nat) (f : Nat → Bool), k ≤ n ∧ i = .int .i64 (k : Int) ∧ OwnI wr w.heap.size v (nodesB k f) ∧ SrcOk wr p ∧ w.grownBy wr (some p)) (fun _ i _ => n - (intOf i).toNat)
  case atStart => exact ⟨0, fun _ => false, Nat.zero_le _, rfl, OwnI.nil _ _, h, grownBy_refl _ _⟩
  case round =>
    obtain ⟨k, f, hk, rfl, hown, hs, hg⟩ := hrel
    have Hown := Lib.hid hown
    clear hown
    by_cases hlt : k < n
    case pos =>
      have hl6 : (nodesB k f).length ≤ 1000000 := by have := nodesB_length k f; omega
      go_wp2_with fail
      refine (n_any p 3 wr hs (by decide) (by decide)).mono ?_
      rintro e w1 ⟨x, rfl, hx1, hx2, hs1, hg1⟩
      have Hown1 := Lib.hid (World.ownsRow.kept Hown.out hg1 (.inr (own_far Hown.out hpl)) : OwnI w1 w.heap.size _ _)
      have hgg := grownBy_trans hg hg1
      have hsz1 := hgg.size
      by_cases hx : x = 0
      · have hd : (x == 0) = true := by simp [hx]
        have hnx : ∃ g : Nat → Bool, nodesB (k + 1) g = nodesB k f ++ [(k : Int)] := by
          refine ⟨fun a => if a = k then true else f a, ?_⟩
          unfold nodesB
          rw [List.range_succ, List.filter_append, List.map_append]
          congr 1
          · congr 1
            exact List.filter_congr fun a ha => by have := List.mem_range.1 ha; rw [if_neg (by omega)]
          · simp
        obtain ⟨g, hg'⟩ := hnx
        have Hg' := Lib.hid hg'
        clear hx hx1 hx2 hg'
        go_wp2_with (at_builtin; go_loud (refine wpList_appI2 (by rfl) _ _ (by rfl) w1 w.heap.size _ _ (k : Int) Hown1.out (by rfl) (by rfl) (by rfl) hl6 hsz1 ?_); intro v' w5 hown5 hb5 hg5 _; have Hown5 := Lib.hid hown5; clear hown5)
        have hs5 := hs1.other hg5 (fun j hj => by have := (World.ownsRow.lt Hown1.out j hj).1; omega)
        have hgr : w.grownBy w5 (some p) := hgg.andThen hg5 (fun j hj => .inl (World.ownsRow.lt Hown1.out j hj).1)
        go_roundw
        case rel => exact ⟨k + 1, g, hlt, by go_num, by rw [Hg'.out]; exact Hown5.out, hs5, hgr⟩
        case measure => simp [intOf]; omega
      · have hd : (x == 0) = false := by simp [hx]
        have hnx : ∃ g : Nat → Bool, nodesB (k + 1) g = nodesB k f := by
          refine ⟨fun a => if a = k then false else f a, ?_⟩
          unfold nodesB
          rw [List.range_succ, List.filter_append, List.map_append]
          rw [show (List.filter (fun a => if a = k then false else f a) [k]) = [] by simp, List.map_nil, List.append_nil]
          congr 1
          exact List.filter_congr fun a ha => by have := List.mem_range.1 ha; rw [if_neg (by omega)]
        obtain ⟨g, hg'⟩ := hnx
        have Hg' := Lib.hid hg'
        clear hx hx1 hx2 hg'
        go_wp2_with fail
        go_roundw
        case rel => exact ⟨k + 1, g, hlt, by go_num, by rw [Hg'.out]; exact Hown1.out, hs1, hgg⟩
        case measure => simp [intOf]; omega
    case neg =>
      obtain rfl : k = n := by omega
      obtain ⟨A, c, rfl, _⟩ := Hown.out.form
      go_wp2_with fail
      go_ret
      exact ⟨_, A, c, rfl, setB_nodes _ _, Hown.out, hs, hg⟩
/-- the call returns some pairs, new -/
def RetPp (p n : Nat) (w : World) : Ending → World → Prop := fun e w' => ∃ (l : List (Int × Int)) (A : Option Addr) (c : Nat), e = .returned (.slice A l.length c) ∧ l.length ≤ 4 ∧ (∀ q ∈ l, okP n q) ∧ OwnP w' w.heap.size (.slice A l.length c) l ∧ SrcOk w' p ∧ w.grownBy w' (some p)
set_option maxRecDepth 100000 in
set_option maxHeartbeats 2000000 in
theorem pairs_any (p n : Nat) (w : World) (h : SrcOk w p) (hn0 : 1 ≤ n) (hn : n ≤ 40) : Calls Tryd.prog 22 #[.pointer (some ⟨p, 0, none⟩), .int .i64 (n : Int)] w (RetPp p n w) := by
  have hpl := h.lt
  go_enter Tryd.func22, Tryd.ntmps22
  go_wp2_with fail
  refine (n_any p 5 w h (by decide) (by decide)).mono ?_
  rintro e w0 ⟨m, rfl, hm1, hm2, hs0, hg0⟩
  obtain ⟨m, rfl⟩ := Int.eq_ofNat_of_zero_le hm1
  have hm : m ≤ 4 := by omega
  clear hm1 hm2
  go_wp2_with fail
  go_loopw [5, 6] (fun v i wr => ∃ (k : Nat) (l : List (Int × Int)), i = .int .i64 (k : Int) ∧ l.length + k = m ∧ (∀ q ∈ l, okP n q) ∧ OwnP wr w.heap.size v l ∧ SrcOk wr p ∧ w.grownBy wr (some p)) (fun _ i _ => (intOf i).toNat)
  case atStart => exact ⟨m, [], rfl, by simp, (fun q hq => by cases hq), OwnP.nil _ _, hs0, hg0⟩
  case round =>
    obtain ⟨k, l, rfl, hlm, hok, hown, hs, hg⟩ := hrel
    have Hown := Lib.hid hown; have Hok := Lib.hid hok; have Hlm := Lib.hid hlm
    have hl4 : l.length ≤ 4 := by omega
    have hk4 : k ≤ 4 := by omega
    clear hown hok hlm
    by_cases hlt : 0 < k
    case pos =>
      have hd : decide ((0 : Int) < (k : Int)) = true := decide_eq_true (by omega)
      go_wp2_with fail
      refine (n_any p (n : Int) wr hs (by omega) (by omega)).mono ?_
      rintro e w1 ⟨x, rfl, hx1, hx2, hs1, hg1⟩
      have Hown1 := Lib.hid (World.ownsRow.kept Hown.out hg1 (.inr (own_far Hown.out hpl)) : OwnP w1 w.heap.size _ _)
      have hgg := grownBy_trans hg hg1
      go_wp2_with fail
      refine (n_any p (n : Int) w1 hs1 (by omega) (by omega)).mono ?_
      rintro e w2 ⟨y, rfl, hy1, hy2, hs2, hg2⟩
      have Hown2 := Lib.hid (World.ownsRow.kept Hown1.out hg2 (.inr (own_far Hown1.out hpl)) : OwnP w2 w.heap.size _ _)
      have hgg2 := grownBy_trans hgg hg2
      have hsz2 := hgg2.size
      have hok' : ∀ q ∈ l ++ [(x, y)], okP n q := fun q hq => by
        rcases List.mem_append.1 hq with hq | hq
        · exact Hok.out q hq
        · rw [List.mem_singleton] at hq; subst hq; exact ⟨hx1, (by show x < (n : Int); omega), hy1, (by show y < (n : Int); omega)⟩
      have Hok' := Lib.hid hok'
      have hl6 : l.length ≤ 1000000 := by omega
      clear hok' hx1 hx2 hy1 hy2
      go_wp2_with (at_builtin; go_loud (refine wpList_appP2 (by rfl) _ _ (by rfl) w2 w.heap.size _ _ x y Hown2.out (by rfl) (by rfl) (by rfl) hl6 hsz2 ?_); intro v' w5 hown5 hb5 hg5; have Hown5 := Lib.hid hown5; clear hown5)
      have hs5 := hs2.other hg5 (fun j hj => by have := (World.ownsRow.lt Hown2.out j hj).1; omega)
      have hgr : w.grownBy w5 (some p) := hgg2.andThen hg5 (fun j hj => .inl (World.ownsRow.lt Hown2.out j hj).1)
      go_roundw
      case rel => exact ⟨k - 1, l ++ [(x, y)], by go_num, by rw [List.length_append]; have := Hlm.out; simp; omega, Hok'.out, Hown5.out, hs5, hgr⟩
      case measure => simp [intOf]; omega
    case neg =>
      have hd : decide ((0 : Int) < (k : Int)) = false := decide_eq_false (by omega)
      obtain ⟨A, c, rfl, _⟩ := Hown.out.form
      go_wp2_with fail
      go_ret
      exact ⟨_, A, c, rfl, hl4, Hok.out, Hown.out, hs, hg⟩
end Go.Proofs.YtncimnfhfomddaaDoor
