/- Three effects that may come in any order. -/
import Derived.Test.YtncimnfhfomddaaDoorGenM
namespace Go.Proofs.YtncimnfhfomddaaDoor
open Go.ChangeShapes Go.WideShapes Go.ChangeAt Go.RowKit

theorem TxtT.three {P : Program} {ops : Array Oper} {Q : Exit → Act → World → Prop} {S : World → Prop} {es : List Nat} {n : Nat} {L : List Nat} {J : World → Prop} {a : Act} (i k q : Nat) {o o2 o3 : Oper} (hL : L.filter (readyIn ops L) = [i, k, q]) (ho : ops[i]? = some o) (ho2 : ops[k]? = some o2) (ho3 : ops[q]? = some o3) (he : es.contains i = true) (he2 : es.contains k = true) (he3 : es.contains q = true) (hw : Region.wanted o (yielded ops a.tmps) = true) (hw2 : Region.wanted o2 (yielded ops a.tmps) = true) (hw3 : Region.wanted o3 (yielded ops a.tmps) = true)
    (Sh : Value → Prop) (J' : Value → World → Prop) (Sh2 : Value → Prop) (J2 : Value → World → Prop) (Sh3 : Value → Prop) (J3 : Value → World → Prop) (h : ∀ w, S w → J w → Eff P o a w fun v w' => S w' ∧ Sh v ∧ J' v w') (h2 : ∀ w, S w → J w → Eff P o2 a w fun v w' => S w' ∧ Sh2 v ∧ J2 v w') (h3 : ∀ w, S w → J w → Eff P o3 a w fun v w' => S w' ∧ Sh3 v ∧ J3 v w')
    (hr : ∀ v, Sh v → TxtT P ops Q S es n (L.erase i) (J' v) (a.put o.dst v)) (hr2 : ∀ v, Sh2 v → TxtT P ops Q S es n (L.erase k) (J2 v) (a.put o2.dst v)) (hr3 : ∀ v, Sh3 v → TxtT P ops Q S es n (L.erase q) (J3 v) (a.put o3.dst v)) : TxtT P ops Q S es (n + 1) L J a := by
  have hm : ∀ j ∈ L, readyIn ops L j = true → j = i ∨ j = k ∨ j = q := fun j hj hrj => by
    have : j ∈ L.filter (readyIn ops L) := List.mem_filter.2 ⟨hj, hrj⟩
    rw [hL] at this
    simpa using this
  refine .inr ⟨fun e => by subst e; simp at hL, fun j hj hrj => ?_, fun j hj hrj => ?_⟩
  · rcases hm j hj hrj with h | h | h <;> rw [h] <;> assumption
  · rcases hm j hj hrj with e | e | e
    · rw [e]; exact ⟨o, ho, hw, Sh, J', h, hr⟩
    · rw [e]; exact ⟨o2, ho2, hw2, Sh2, J2, h2, hr2⟩
    · rw [e]; exact ⟨o3, ho3, hw3, Sh3, J3, h3, hr3⟩
theorem TxtT.weakJ {P : Program} {ops : Array Oper} {Q : Exit → Act → World → Prop} {S : World → Prop} {es : List Nat} {J2 : World → Prop} : ∀ {n : Nat} {L : List Nat} {J : World → Prop} {a : Act}, (∀ w, J w → J2 w) → TxtT P ops Q S es n L J2 a → TxtT P ops Q S es n L J a
  | 0, L, J, a, hJ, h => ⟨h.1, fun w hS hw => h.2 w hS (hJ w hw)⟩
  | n + 1, L, J, a, hJ, h => by
    rcases h with ⟨i, o, h1, h2, h3, h4, v, h5, h6⟩ | ⟨h1, h2, h3⟩
    · exact .inl ⟨i, o, h1, h2, h3, h4, v, h5, TxtT.weakJ hJ h6⟩
    · refine .inr ⟨h1, h2, fun i hi hr => ?_⟩
      obtain ⟨o, ho, hw, Sh, J', h4, h5⟩ := h3 i hi hr
      exact ⟨o, ho, hw, Sh, J', fun w hS hw => h4 w hS (hJ w hw), h5⟩
end Go.Proofs.YtncimnfhfomddaaDoor
