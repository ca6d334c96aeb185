/- Appends and allocations as effects of a region; the tree's steps. -/
import Derived.Test.YtiljbfeipfdmdaaDoorRGrow
import Derived.Test.YtiljbfeipfdmdaaDoorTxtT
namespace Go.Proofs.YtiljbfeipfdmdaaDoor
open Go.ChangeShapes Go.WideShapes Go.ChangeAt Go.RowKit

theorem OwnI.form2 {w : World} {b : Nat} {v : Value} {l : List Int} (h : OwnI w b v l) : ∃ A c, v = .slice A l.length c ∧ RI w A l ∧ (A = none → l = [] ∧ c = 0) := by
  have h' := h
  obtain ⟨h1, h2⟩ := h
  rcases h2 with ⟨rfl, hn⟩ | ⟨g, cap, cur, rfl, hg, r⟩
  · have : l = [] := List.eq_nil_of_length_eq_zero hn
    subst this
    exact ⟨none, 0, rfl, RI.nil _ _, fun _ => ⟨rfl, rfl⟩⟩
  · exact ⟨_, _, rfl, h'.ri, fun e => by cases e⟩
set_option maxRecDepth 100000 in
/-- 'append(s, xs...)' as an effect of a region -/
theorem eff_appIs {o : Oper} {a : Act} (s x : Operand)
    (ho : o.op = .call { callee := .builtin .append, args := #[s, x], argTypes := #[22, 22] })
    (X : World) (base : Nat) (v : Value) (l : List Int) (B : Option Addr) (l2 : List Int) (c : Nat) (hown : OwnI X base v l) (hr : RI X B l2) (hB : B = none → l2 = [] ∧ c = 0) (hs : a.eval s = v) (hx : a.eval x = .slice B l2.length c)
    (hlen : l.length + l2.length ≤ 1000000) (hbase : base ≤ X.heap.size) {Post : Value → World → Prop}
    (h : ∀ v' w', OwnI w' base v' (l ++ l2) → Below base X w' → X.grownBy w' v.ownBlock → Post v' w') : Eff Tryd.prog o a X Post := by
  obtain ⟨i0, hi, hz0, hz1, hz2⟩ := info_parts info_int
  unfold Eff
  cases B with
  | none =>
    obtain ⟨rfl, rfl⟩ := hB rfl
    have hrun := run_append_owned_none (P := Tryd.prog) (w := X) base 22 o.type 3 i0 1 Tryd.underlying22 hi v l.length _ hown
    have hp := h v X (by rw [List.append_nil]; exact hown) (Below.refl _ _) (grownBy_refl _ _)
    unfold Oper.wp
    simp [execOp, ho, resolve, invoke, builtin, hs, hx, hrun, Result.andThen]
    exact ⟨v, rfl, hp⟩
  | some ad =>
    refine wp_append_own X s x 22 ho base 3 i0 (.int .i64 0) 1 8 Tryd.underlying22 hi hz0 hz1 hz2 rfl (by decide) v l.length _ hs hown ad l2.length c (l2.map (Value.int .i64)) hx (by simp) (fun j u hu => ?_)
      (by intro u hu; rw [List.mem_map] at hu; obtain ⟨y, _, rfl⟩ := hu; rfl) (by unfold maxLen; omega) (by omega) hbase ?_
    · rw [List.getElem?_map] at hu
      cases hj : l2[j]? with
      | none => rw [hj] at hu; cases hu
      | some y =>
        rw [hj] at hu
        simp only [Option.map_some, Option.some.injEq] at hu
        subst hu
        have hjl := (List.getElem?_eq_some_iff.1 hj).1
        obtain ⟨b, off, hA, hc⟩ := hr j hjl
        injection hA with hA; subst hA
        rw [show (⟨b, off, none⟩ : Addr).add j = ⟨b, off + j, none⟩ by unfold Addr.add; split <;> simp_all, hc]
        simp [List.getD, hj]
    · intro v' w1 hown' hgrow _
      refine ⟨v', rfl, h v' w1 ?_ ((Below.refl base X).grown hgrow hbase (fun k hk => (hown.lt k hk).1)) hgrow⟩
      unfold OwnI; rw [List.length_append, List.map_append]; exact hown'

section
variable {P : Program} {ops : Array Oper} {Q : Exit → Act → World → Prop} {S : World → Prop} {es : List Nat}
theorem TxtT.pure {n : Nat} {L : List Nat} {J : World → Prop} {a : Act} (i : Nat) {o : Oper} (hi : L.contains i = true) (ho : ops[i]? = some o) (he : es.contains i = false) (hr : readyIn ops L i = true) (hw : Region.wanted o (yielded ops a.tmps) = true)
    (h : ∃ v, (∀ w, S w → (execOp a.eval o).run P w = .ok (.value v) w) ∧ TxtT P ops Q S es n (L.erase i) J (a.put o.dst v)) : TxtT P ops Q S es (n + 1) L J a := by
  obtain ⟨v, h1, h2⟩ := h
  exact .inl ⟨i, o, by simpa using hi, ho, he, hr, v, .inl ⟨hw, h1⟩, h2⟩
/-- one effect is ready -/
theorem TxtT.one {n : Nat} {L : List Nat} {J : World → Prop} {a : Act} (i : Nat) {o : Oper} (hL : L.filter (readyIn ops L) = [i]) (ho : ops[i]? = some o) (he : es.contains i = true) (hw : Region.wanted o (yielded ops a.tmps) = true)
    (Sh : Value → Prop) (J' : Value → World → Prop) (h : ∀ w, S w → J w → Eff P o a w fun v w' => S w' ∧ Sh v ∧ J' v w') (hr : ∀ v, Sh v → TxtT P ops Q S es n (L.erase i) (J' v) (a.put o.dst v)) : TxtT P ops Q S es (n + 1) L J a := by
  have hm : ∀ j ∈ L, readyIn ops L j = true → j = i := fun j hj hrj => by
    have : j ∈ L.filter (readyIn ops L) := List.mem_filter.2 ⟨hj, hrj⟩
    rw [hL] at this
    simpa using this
  refine .inr ⟨fun e => by subst e; simp at hL, fun j hj hrj => by rw [hm j hj hrj]; exact he, fun j hj hrj => ?_⟩
  rw [hm j hj hrj]
  exact ⟨o, ho, hw, Sh, J', h, hr⟩
/-- two effects are ready -/
theorem TxtT.two {n : Nat} {L : List Nat} {J : World → Prop} {a : Act} (i k : Nat) {o o2 : Oper} (hL : L.filter (readyIn ops L) = [i, k]) (ho : ops[i]? = some o) (ho2 : ops[k]? = some o2) (he : es.contains i = true) (he2 : es.contains k = true) (hw : Region.wanted o (yielded ops a.tmps) = true) (hw2 : Region.wanted o2 (yielded ops a.tmps) = true)
    (Sh : Value → Prop) (J' : Value → World → Prop) (Sh2 : Value → Prop) (J2 : Value → World → Prop) (h : ∀ w, S w → J w → Eff P o a w fun v w' => S w' ∧ Sh v ∧ J' v w') (h2 : ∀ w, S w → J w → Eff P o2 a w fun v w' => S w' ∧ Sh2 v ∧ J2 v w')
    (hr : ∀ v, Sh v → TxtT P ops Q S es n (L.erase i) (J' v) (a.put o.dst v)) (hr2 : ∀ v, Sh2 v → TxtT P ops Q S es n (L.erase k) (J2 v) (a.put o2.dst v)) : TxtT P ops Q S es (n + 1) L J a := by
  have hm : ∀ j ∈ L, readyIn ops L j = true → j = i ∨ j = k := fun j hj hrj => by
    have : j ∈ L.filter (readyIn ops L) := List.mem_filter.2 ⟨hj, hrj⟩
    rw [hL] at this
    simpa using this
  refine .inr ⟨fun e => by subst e; simp at hL, fun j hj hrj => ?_, fun j hj hrj => ?_⟩
  · rcases hm j hj hrj with h | h <;> rw [h] <;> assumption
  · rcases hm j hj hrj with h3 | h3
    · rw [h3]; exact ⟨o, ho, hw, Sh, J', h, hr⟩
    · rw [h3]; exact ⟨o2, ho2, hw2, Sh2, J2, h2, hr2⟩
theorem Eff.value {o : Oper} {a : Act} {w w' : World} {v : Value} {Post : Value → World → Prop} (hrun : (execOp a.eval o).run P w = .ok (.value v) w') (h : Post v w') : Eff P o a w Post := by
  unfold Eff Oper.wp
  rw [hrun]
  exact ⟨v, rfl, h⟩
end

theorem own_one (w : World) (z : Int) : OwnI (w.alloc (.cells #[.int .i64 z] 3)) w.heap.size (.slice (some ⟨w.heap.size, 0, none⟩) 1 1) [z] :=
  ⟨by simp, .inr ⟨w.heap.size, 1, #[.int .i64 z], rfl, Nat.le_refl _, Blk.new _ _ _, Nat.le_refl _, by decide, by simp, by simp⟩⟩
theorem shapeI {w : World} {b : Nat} {v : Value} {l : List Int} (h : OwnI w b v l) : ∃ A c, v = .slice A l.length c := by
  obtain ⟨A, c, e, _⟩ := h.form2
  exact ⟨A, c, e⟩
theorem OwnI.old {w : World} {b : Nat} {v : Value} {l : List Int} (h : OwnI w b v l) {g : Nat} (hg : v.ownBlock = some g) : g < w.heap.size := (World.ownsRow.lt h g hg).2

end Go.Proofs.YtiljbfeipfdmdaaDoor
