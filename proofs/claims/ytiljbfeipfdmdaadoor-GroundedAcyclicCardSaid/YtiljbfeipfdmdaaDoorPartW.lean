/- keep's Part; the append of a whole slice of numbers; the reference's Grow, Shrink, Greedy. -/
import Derived.Test.YtiljbfeipfdmdaaDoorGen
import Derived.Test.YtiljbfeipfdmdaaDoorPlain13
import Derived.Laws.AppendOwnNone
namespace Go.Proofs.YtiljbfeipfdmdaaDoor
open Go.ChangeShapes Go.WideShapes Go.ChangeAt Go.RowKit

/-- the call returns a set of nodes below n, in a new slice; the reader has gone on -/
def RetPa (p n : Nat) (w : World) : Ending → World → Prop := fun e w' => ∃ (f : Nat → Bool) (v : Value), e = .returned v ∧ OwnI w' w.heap.size v (nodesB n f) ∧ SrcOk w' p ∧ w.grownBy w' (some p)

theorem nodesB_more1 (k : Nat) (f : Nat → Bool) (b : Bool) : nodesB (k + 1) (fun i => if i = k then b else f i) = nodesB k f ++ (if b then [(k : Int)] else []) := by
  rw [nodesB_succ]
  have e : nodesB k (fun i => if i = k then b else f i) = nodesB k f := nodesB_congr fun i hi => by rw [if_neg (by omega)]
  rw [e]
  simp

set_option maxRecDepth 100000 in
set_option maxHeartbeats 1000000 in
theorem part_any (p : Nat) (n : Nat) (w : World) (h : SrcOk w p) (hn : n ≤ 40) :
    Calls Tryd.prog 31 #[.pointer (some ⟨p, 0, none⟩), .int .i64 (n : Int)] w (RetPa p n w) := by
  have hpl := h.lt
  go_enter Tryd.func31, Tryd.ntmps31
  go_wp2_with fail
  go_loopw [5, 6] (fun v i wr => ∃ (k : Nat) (f : Nat → Bool), k ≤ n ∧ i = .int .i64 k ∧ OwnI wr w.heap.size v (nodesB k f) ∧ SrcOk wr p ∧ Near p w.heap.size w wr) (fun _ i _ => n - (intOf i).toNat)
  case atStart => exact ⟨0, fun _ => false, Nat.zero_le _, rfl, OwnI.nil _ _, h, Near.refl _ _ _⟩
  case round =>
    clear h
    obtain ⟨k, f, hk, rfl, hown, hs, hne⟩ := hrel
    by_cases hkn : k < n
    case neg =>
      obtain rfl : k = n := by omega
      go_wp2_with fail
      go_ret
      exact ⟨f, _, rfl, hown, hs, hne.grown⟩
    case pos =>
    have hkn' : (k : Int) < (n : Int) := by omega
    have hl : (nodesB k f).length ≤ 1000000 := by have := nodesB_length k f; omega
    have Hown := Lib.hid hown; clear hown
    go_wp2_with fail
    refine (n_any p 2 wr hs (by omega) (by omega)).mono ?_
    rintro e w3 ⟨d, rfl, hd1, hd2, hs3, hg3⟩
    have hown3 : OwnI w3 w.heap.size _ (nodesB k f) := ownsRow_far Hown.out hg3 hpl
    have hne3 := hne.trans (Near.of_grown hg3 hne.size)
    have Hown3 := Lib.hid hown3
    clear hown3 Hown hs hne hg3
    by_cases hd : d = 1
    · subst hd
      go_wp2_with (at_builtin; refine wpList_appI (by rfl) _ _ (by rfl) w3 w.heap.size _ _ (k : Int) Hown3.out (by rfl) (by rfl) (by omega) hne3.size ?_; intro v' w4 hown' hb4 hg4)
      go_roundw
      case rel => exact ⟨k + 1, fun i => if i = k then true else f i, by omega, by go_num, by rw [nodesB_more1]; exact hown', hs3.append Hown3.out hg4 hpl, hne3.trans (Near.of_below hb4)⟩
      case measure => simp [intOf]; omega
    · have hd0 : d = 0 := by omega
      subst hd0
      go_wp2_with fail
      go_roundw
      case rel => exact ⟨k + 1, fun i => if i = k then false else f i, by omega, by go_num, by rw [nodesB_more1]; simpa using Hown3.out, hs3, hne3⟩
      case measure => simp [intOf]; omega

set_option maxRecDepth 100000 in
/-- 'out = append(out, xs...)', out a slice of numbers of the call's own -/
theorem wpList_appIs {ops : Array Oper} {rest : List Oper} {o : Oper} {a : Act} {Q : Exit → Act → World → Prop} (hgd : o.guard = none) (s x : Operand)
    (ho : o.op = .call { callee := .builtin .append, args := #[s, x], argTypes := #[22, 22] })
    (X : World) (base : Nat) (v : Value) (l : List Int) (B : Option Addr) (l2 : List Int) (c : Nat) (hown : OwnI X base v l) (hr : RI X B l2) (hB : B = none → l2 = [] ∧ c = 0) (hs : a.eval s = v) (hx : a.eval x = .slice B l2.length c)
    (hlen : l.length + l2.length ≤ 1000000) (hbase : base ≤ X.heap.size)
    (h : ∀ v' w', OwnI w' base v' (l ++ l2) → Below base X w' → X.grownBy w' v.ownBlock → wpList Tryd.prog ops Q rest (a.put o.dst v') w') :
    wpList Tryd.prog ops Q (o :: rest) a X := by
  obtain ⟨i0, hi, hz0, hz1, hz2⟩ := info_parts info_int
  cases B with
  | none =>
    obtain ⟨rfl, rfl⟩ := hB rfl
    refine wpList_append_own_none hgd s x 22 ho base 3 i0 1 Tryd.underlying22 hi v l.length _ hs hown hx (h v X ?_ (Below.refl _ _) (grownBy_refl _ _))
    rw [List.append_nil]; exact hown
  | some ad =>
    refine wpList_append_own _ hgd s x 22 ho base 3 i0 (.int .i64 0) 1 8 Tryd.underlying22 hi hz0 hz1 hz2 rfl (by decide) v l.length _ hs hown ad l2.length c (l2.map (Value.int .i64)) hx (by simp) (fun j u hu => ?_)
      (by intro u hu; rw [List.mem_map] at hu; obtain ⟨y, _, rfl⟩ := hu; rfl) (by unfold maxLen; omega) (by omega) hbase ?_
    · rw [List.getElem?_map] at hu
      cases hj : l2[j]? with
      | none => rw [hj] at hu; cases hu
      | some y =>
        rw [hj] at hu
        simp only [Option.map_some, Option.some.injEq] at hu
        subst hu
        have hjl := (List.getElem?_eq_some_iff.1 hj).1
        obtain ⟨b, off, hA, hc⟩ := hr j hjl
        injection hA with hA; subst hA
        rw [show (⟨b, off, none⟩ : Addr).add j = ⟨b, off + j, none⟩ by unfold Addr.add; split <;> simp_all, hc]
        simp [List.getD, hj]
    · intro v' w1 hown' hgrow _
      refine h v' w1 ?_ ((Below.refl base X).grown hgrow hbase (fun k hk => (hown.lt k hk).1)) hgrow
      unfold OwnI; rw [List.length_append, List.map_append]; exact hown'
/-- '[]int{}' -/
theorem own_empty (w : World) : OwnI (w.alloc (.cells #[] 3)) w.heap.size (.slice (some ⟨w.heap.size, 0, none⟩) 0 0) [] :=
  World.ownsRow_made w #[] 0 (Nat.le_refl _) (by decide) (by simp)
end Go.Proofs.YtiljbfeipfdmdaaDoor
