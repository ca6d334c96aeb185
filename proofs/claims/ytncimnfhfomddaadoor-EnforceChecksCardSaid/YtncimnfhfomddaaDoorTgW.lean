import Derived.Test.YtncimnfhfomddaaDoorGr
import Derived.Test.YtncimnfhfomddaaDoorSrt
import Derived.Test.YtncimnfhfomddaaDoorTgP
/- enforce: compare, Toggle. -/
namespace Go.Proofs.YtncimnfhfomddaaDoor
open Go.ChangeShapes Go.WideShapes Go.ChangeAt Go.RowKit

set_option maxHeartbeats 1000000 in
theorem ecmp_any (p q : Int × Int) (w : World) : Calls Tryd.prog 57 #[.agg #[.int .i64 p.1, .int .i64 p.2], .agg #[.int .i64 q.1, .int .i64 q.2]] w (RetX (.int .i64 (cmpP p q)) w) := by
  go_enter Tryd.func57, Tryd.ntmps57
  go_wp2_with fail
  obtain ⟨W0, hW, k0, k1, _, _⟩ := boxed2 w 42 42 (.int .i64 p.1) (.int .i64 p.2) (.int .i64 q.1) (.int .i64 q.2)
  have hG : Grew w W0 := by rw [← hW]; exact ((Grew.refl w).alloc _).alloc _
  rw [hW]
  clear hW
  refine wp_region_textB [4, 9, 10, 11] (fun w' => Grew W0 w') (fun _ => True) (by kernel_rfl) (by kernel_rfl) (by kernel_rfl) (Grew.refl _).drew trivial ?_
  repeat (first
    | (refine TxtBL.skip (by rfl) ?_; simp only [Act.put, List.setIfInBounds_toArray, List.set_cons_zero, List.set_cons_succ])
    | (refine TxtBL.take (by rfl) (by rfl) ?_; apply Exists.intro; refine ⟨fun w1 hS1 => ?_, ?_⟩; (focus ((obtain ⟨g0, g1, _, _⟩ := (k0.below hS1.below k0.lt).two); (obtain ⟨g2, g3, _, _⟩ := (k1.below hS1.below k1.lt).two); go_simp; with_reducible rfl)); simp only [Act.put, List.setIfInBounds_toArray, List.set_cons_zero, List.set_cons_succ])
    | (refine TxtBL.takeE (by rfl) (by rfl) ?_; apply Exists.intro; refine ⟨fun w1 hS1 => ?_, ?_⟩; (focus ((obtain ⟨g0, g1, _, _⟩ := (k0.below hS1.below k0.lt).two); (obtain ⟨g2, g3, _, _⟩ := (k1.below hS1.below k1.lt).two); go_simp; with_reducible rfl)); simp only [Act.put, List.setIfInBounds_toArray, List.set_cons_zero, List.set_cons_succ]))
  refine TxtBL.call (f := 68) (args := #[.int .i64 p.1, .int .i64 q.1]) (fun v => v = .int .i64 (cmpI p.1 q.1)) (fun _ _ => True) (by rfl) (by rfl) ⟨_, rfl⟩ (fun w1 hS1 hJ1 => by go_simp) (fun w1 hS1 hJ1 => ?_) ?_
  · refine (cmpc_any _ _ w1).mono ?_
    rintro e w' ⟨rfl, rfl⟩
    exact ⟨_, rfl, hS1, rfl, trivial⟩
  rintro v rfl
  simp only [Act.put, List.setIfInBounds_toArray, List.set_cons_zero, List.set_cons_succ]
  repeat (first
    | (refine TxtBL.skip (by rfl) ?_; simp only [Act.put, List.setIfInBounds_toArray, List.set_cons_zero, List.set_cons_succ])
    | (refine TxtBL.take (by rfl) (by rfl) ?_; apply Exists.intro; refine ⟨fun w1 hS1 => ?_, ?_⟩; (focus ((obtain ⟨g0, g1, _, _⟩ := (k0.below hS1.below k0.lt).two); (obtain ⟨g2, g3, _, _⟩ := (k1.below hS1.below k1.lt).two); go_simp; with_reducible rfl)); simp only [Act.put, List.setIfInBounds_toArray, List.set_cons_zero, List.set_cons_succ])
    | (refine TxtBL.takeE (by rfl) (by rfl) ?_; apply Exists.intro; refine ⟨fun w1 hS1 => ?_, ?_⟩; (focus ((obtain ⟨g0, g1, _, _⟩ := (k0.below hS1.below k0.lt).two); (obtain ⟨g2, g3, _, _⟩ := (k1.below hS1.below k1.lt).two); go_simp; with_reducible rfl)); simp only [Act.put, List.setIfInBounds_toArray, List.set_cons_zero, List.set_cons_succ]))
  refine TxtBL.call (f := 68) (args := #[.int .i64 p.2, .int .i64 q.2]) (fun v => v = .int .i64 (cmpI p.2 q.2)) (fun _ _ => True) (by rfl) (by rfl) ⟨_, rfl⟩ (fun w1 hS1 hJ1 => by go_simp) (fun w1 hS1 hJ1 => ?_) ?_
  · refine (cmpc_any _ _ w1).mono ?_
    rintro e w' ⟨rfl, rfl⟩
    exact ⟨_, rfl, hS1, rfl, trivial⟩
  rintro v rfl
  simp only [Act.put, List.setIfInBounds_toArray, List.set_cons_zero, List.set_cons_succ]
  refine TxtBL.value (fun v => ∃ g, v = Value.slice (some ⟨g, 0, none⟩) 2 2) (fun v w' => ∃ g, v = Value.slice (some ⟨g, 0, none⟩) 2 2 ∧ RI w' (some ⟨g, 0, none⟩) [cmpI p.1 q.1, cmpI p.2 q.2]) (by rfl) (by rfl) ⟨_, 0, rfl⟩ (fun w1 hS1 hJ1 => ?_) ?_
  · exact ⟨.slice (some ⟨w1.heap.size, 0, none⟩) 2 2, w1.alloc (.cells #[.int .i64 (cmpI p.1 q.1), .int .i64 (cmpI p.2 q.2)] 3), by go_simp, hS1.alloc _, ⟨_, rfl⟩, _, rfl, new_ri2' _ _ _ _⟩
  rintro v ⟨g, rfl⟩
  simp only [Act.put, List.setIfInBounds_toArray, List.set_cons_zero, List.set_cons_succ]
  refine TxtBL.call (f := 67) (args := #[.slice (some ⟨g, 0, none⟩) 2 2]) (fun v => v = .int .i64 (cmpP p q)) (fun _ _ => True) (by rfl) (by rfl) ⟨_, rfl⟩ (fun w1 hS1 hJ1 => by go_simp) (fun w1 hS1 hJ1 => ?_) ?_
  · obtain ⟨g', hg', hri⟩ := hJ1
    injection hg' with hg' _ _; injection hg' with hg'; injection hg' with hg' _ _; subst hg'
    refine (or_any _ _ _ _ w1 hri).mono ?_
    rintro e w' ⟨rfl, rfl⟩
    exact ⟨_, rfl, hS1, rfl, trivial⟩
  rintro v rfl
  simp only [Act.put, List.setIfInBounds_toArray, List.set_cons_zero, List.set_cons_succ]
  repeat (first
    | (refine TxtBL.skip (by rfl) ?_; simp only [Act.put, List.setIfInBounds_toArray, List.set_cons_zero, List.set_cons_succ])
    | (refine TxtBL.take (by rfl) (by rfl) ?_; apply Exists.intro; refine ⟨fun w1 hS1 => ?_, ?_⟩; (focus (skip; go_simp; with_reducible rfl)); simp only [Act.put, List.setIfInBounds_toArray, List.set_cons_zero, List.set_cons_succ])
    | (refine TxtBL.takeE (by rfl) (by rfl) ?_; apply Exists.intro; refine ⟨fun w1 hS1 => ?_, ?_⟩; (focus (skip; go_simp; with_reducible rfl)); simp only [Act.put, List.setIfInBounds_toArray, List.set_cons_zero, List.set_cons_succ]))
  refine TxtBL.nil (fun B hS hJ => ?_)
  go_wp2
  go_ret
  exact ⟨rfl, hG.trans hS⟩

theorem isAggP : ∀ w, (isAgg 42).run Tryd.prog w = .ok true w := Tryd.isAgg42
theorem sizeOfP : ∀ w, (Go.sizeOf 42).run Tryd.prog w = .ok 2 w := Tryd.sizeOf42

/-- the library's sort of pairs, by compare -/
theorem sortE_any (g c : Nat) (l : List (Int × Int)) (w : World) (hH : Go.Sort.HoldsK encP 2 w g 0 l.toArray) (hg : g < w.heap.size) (hl : l.length ≤ 100000) :
    Calls Tryd.prog 56 #[.slice (some ⟨g, 0, none⟩) l.length c, .func (.func 57) #[] #[]] w (fun e w' =>
      e = .returned (.tuple #[]) ∧ ∃ n os, w' = sortWorldK encP 2 w g 0 n (l.mergeSort fun x y => !(ltOf cmpP) y x).toArray os) := by
  have eg : ∀ args w, (callFunc 57 args).run Tryd.prog w = .ok (.enter 57 args) w := enters_of Tryd.func57 (by kernel_rfl) rfl
  have hcmp : CmpLays Tryd.prog 57 #[] encP 2 cmpP g 0 l.toArray.size w := fun _ _ _ _ x y => (ecmp_any x y _).mono fun _ _ h => ⟨h.1, h.2⟩
  have h := AnyQ.slices_SortFunc_total sortP 2 isAggP sizeOfP encP (fun _ => rfl) (fun x v hv => by simp [encP] at hv; rcases hv with rfl | rfl <;> rfl) cmpP swoP 57 #[] g 0 c l.toArray w eg hcmp hH hg (by simp; omega) totP
  exact h
theorem sortE_none (A : Option Addr) (c : Nat) (w : World) :
    Calls Tryd.prog 56 #[.slice A 0 c, .func (.func 57) #[] #[]] w (Ret (.tuple #[]) w) :=
  (AnyF.slices_SortFunc_none { sortP with } A c (.func (.func 57) #[] #[]) w).mono fun _ _ h => ⟨h.1, h.2.symm⟩

/-- 'out = append(out, api.Pair{..})', the new pair's block by its number -/
theorem wpList_appP2 {ops : Array Oper} {rest : List Oper} {o : Oper} {a : Act} {Q : Exit → Act → World → Prop} (hgd : o.guard = none) (s x : Operand)
    (ho : o.op = .call { callee := .builtin .append, args := #[s, x], argTypes := #[22, 22] })
    (X : World) (base : Nat) (v : Value) (l : List (Int × Int)) (y z : Int) (hown : OwnP X base v l) (hs : a.eval s = v) {gx : Nat} (hx : a.eval x = .slice (some ⟨gx, 0, none⟩) 1 1) (hgx : gx = X.heap.size)
    (hlen : l.length ≤ 1000000) (hbase : base ≤ X.heap.size)
    (h : ∀ v' w', OwnP w' base v' (l ++ [(y, z)]) → Below base X w' → X.grownBy w' v.ownBlock → wpList Tryd.prog ops Q rest (a.put o.dst v') w') :
    wpList Tryd.prog ops Q (o :: rest) a (X.alloc (.cells #[.int .i64 y, .int .i64 z] 42)) := by
  subst hgx
  exact wpList_appP hgd s x ho X base v l y z hown hs hx hlen hbase h



end Go.Proofs.YtncimnfhfomddaaDoor
